/- Texts of this proof, one behind another: Yf Yg Yh Yi Tl. -/
import Derived.Test.YtmilljlkcbljpaaV8
/- table of the reference. -/
namespace Go.Proofs.Ytmilljlkcbljpaa
open Go.RowKit Go.Sort

set_option maxHeartbeats 400000 in
theorem refCoord_any {i m : Nat} {w : World} (hm : 2 ≤ m) (hm' : m ≤ 17) (hi : i < m) :
    Calls Try.prog 78 #[.int .i64 i, .int .i64 m] w fun e w' => e = .returned (.int .i64 (argV i m)) ∧ w' = w := by
  have E := Lib.hid (show argV i m = (131070 * (i : Int) + m - 1) / (2 * ((m : Int) - 1)) from rfl)
  have d0 : (2 * ((m : Int) - 1) == 0) = false := by simp; omega
  have p0 : 0 ≤ 131070 * (i : Int) + m - 1 := by omega
  have p1 : 1 ≤ 2 * ((m : Int) - 1) := by omega
  go_enter Try.func78, Try.ntmps78
  go_wp2
  go_ret
  exact ⟨ret_int E.out.symm, rfl⟩

theorem place3 {m r g b : Nat} (hm : 2 ≤ m) (hg : g < m) (hb : b < m) : ((r * m + g) * m + b) / (m * m) = r ∧ ((r * m + g) * m + b) / m % m = g ∧ ((r * m + g) * m + b) % m = b := by
  have h1 : ((r * m + g) * m + b) / m = r * m + g := by
    rw [Nat.mul_comm (r * m + g) m, Nat.mul_add_div (by omega), Nat.div_eq_of_lt hb, Nat.add_zero]
  refine ⟨?_, ?_, ?_⟩
  · rw [← Nat.div_div_eq_div_mul, h1, Nat.mul_comm r m, Nat.mul_add_div (by omega), Nat.div_eq_of_lt hg, Nat.add_zero]
  · rw [h1, Nat.mul_comm r m, Nat.mul_add_mod, Nat.mod_eq_of_lt hg]
  · rw [Nat.mul_comm (r * m + g) m, Nat.mul_add_mod, Nat.mod_eq_of_lt hb]
theorem grids_new (w : World) (m : Int) (t' : TypeId) : ∃ w0, (w.alloc (.cells #[.int .i64 0, .slice none 0 0] t')).alloc (.cells #[.int .i64 m, .slice none 0 0] t') = w0 ∧
    Below w.heap.size w w0 ∧ w0.heap.size = w.heap.size + 2 ∧ Two t' w0 w.heap.size (.int .i64 0) (.slice none 0 0) ∧ Two t' w0 (w.heap.size + 1) (.int .i64 m) (.slice none 0 0) := by
  refine ⟨_, rfl, ((Below.refl _ w).alloc (Nat.le_refl _) _).alloc (by simp) _, by simp, (Two.new w _ _ t').alloc _, ?_⟩
  have h := Two.new (w.alloc (.cells #[.int .i64 0, .slice none 0 0] t')) (.int .i64 m) (.slice none 0 0) t'
  rw [World.size_alloc] at h
  exact h

set_option maxRecDepth 100000 in
set_option maxHeartbeats 8000000 in
theorem refTable_some {n m B : Nat} {v : Value} {S : Nat → Sp} {w : World} (hn1 : 1 ≤ n) (hn : n ≤ 4096) (hm : 2 ≤ m) (hm' : m ≤ 17) (hB : B ≤ w.heap.size) (hc : Chn w B v n S) (hv : ∀ k, k < n → (S k).val = true) :
    Calls Try.prog 45 #[v, .int .i64 m] w fun e w' => ∃ x, e = .returned (.agg #[.int .i64 m, x]) ∧ w'.ownsRow w.heap.size 28 3 x (m * m * m) (vals3 (tabV S n m) (m * m * m)) ∧ Below w.heap.size w w' := by
  obtain ⟨w0, h0, hb0, hz, t1, t2⟩ := grids_new w m 31
  obtain ⟨i0, hi, hz0, hz1, hz2⟩ := info_parts Try.info3
  obtain ⟨q1, q2, q3, q4⟩ := cube_bd hm hm'
  obtain ⟨w1, h1⟩ : ∃ w1, w0.setCell ⟨w.heap.size + 1, 1, none⟩ (.slice none 0 0) = w1 := ⟨_, rfl⟩
  have x0 := t2.c0
  have x1 := t2.c1
  have y0 := t2.free 0
  have y1 := t2.free 1
  have hb1 : Below w.heap.size w w1 := by rw [← h1]; exact hb0.setCell (by simp) _
  have T1 : Hid (Two 31 w1 w.heap.size (.int .i64 0) (.slice none 0 0)) := Lib.hid (by rw [← h1]; exact t1.keep (by omega))
  have T2 : Hid (Two 31 w1 (w.heap.size + 1) (.int .i64 m) (.slice none 0 0)) := Lib.hid (by rw [← h1]; exact t2.set1 _)
  have hsz1 : w.heap.size + 2 ≤ w1.heap.size := by rw [← h1]; simp; omega
  have HC := Lib.hid hc
  have HV := Lib.hid hv
  obtain ⟨ac, cc, rfl⟩ := hc.shape
  clear t1 t2 hz hc hv
  go_enter Try.func45, Try.ntmps45
  go_wp2
  clear h0 h1 x0 x1 y0 y1
  go_loopw [6] (fun i wr => ∃ (r K : Nat) (x : Value), r ≤ m ∧ i = .int .i64 r ∧ Hid (K = r * m * m) ∧ Two 31 wr w.heap.size (.int .i64 0) (.slice none 0 0) ∧ Two 31 wr (w.heap.size + 1) (.int .i64 m) x ∧ wr.ownsRow (w.heap.size + 2) 28 3 x K (vals3 (tabV S n m) K) ∧ Below w.heap.size w wr) (fun i _ => m - (intOf i).toNat)
  case atStart => exact ⟨0, 0, _, by omega, rfl, Lib.hid (by simp), T1.out, T2.out, World.ownsRow_nil _ _ _ _, hb1⟩
  case round =>
    obtain ⟨r, K, x, hr, rfl, hK, t1, t2, hown, hq⟩ := hrel
    by_cases hrm : r < m
    · have T1' := Lib.hid t1
      have T2' := Lib.hid t2
      have HO' := Lib.hid hown
      clear t1 t2 hown T1 T2
      go_wp2
      go_loopw [7] (fun i wr => ∃ (g K : Nat) (x : Value), g ≤ m ∧ i = .int .i64 g ∧ Hid (K = (r * m + g) * m) ∧ Two 31 wr w.heap.size (.int .i64 0) (.slice none 0 0) ∧ Two 31 wr (w.heap.size + 1) (.int .i64 m) x ∧ wr.ownsRow (w.heap.size + 2) 28 3 x K (vals3 (tabV S n m) K) ∧ Below w.heap.size w wr) (fun i _ => m - (intOf i).toNat)
      case atStart => exact ⟨0, K, x, by omega, rfl, Lib.hid (by rw [hK.out, Nat.add_zero]), T1'.out, T2'.out, HO'.out, hq⟩
      case round =>
        clear T1' T2' HO' hq hK K x
        obtain ⟨g, K, x, hg, rfl, hK, t1, t2, hown, hq⟩ := hrel
        by_cases hgm : g < m
        · have T1' := Lib.hid t1
          have T2' := Lib.hid t2
          have HO' := Lib.hid hown
          clear t1 t2 hown
          go_wp2
          go_loopw [8] (fun i wr => ∃ (b K : Nat) (x : Value), b ≤ m ∧ i = .int .i64 b ∧ Hid (K = (r * m + g) * m + b) ∧ Two 31 wr w.heap.size (.int .i64 0) (.slice none 0 0) ∧ Two 31 wr (w.heap.size + 1) (.int .i64 m) x ∧ wr.ownsRow (w.heap.size + 2) 28 3 x K (vals3 (tabV S n m) K) ∧ Below w.heap.size w wr) (fun i _ => m - (intOf i).toNat)
          case atStart => exact ⟨0, K, x, by omega, rfl, Lib.hid (by rw [hK.out, Nat.add_zero]), T1'.out, T2'.out, HO'.out, hq⟩
          case round =>
            clear T1' T2' HO' hq hK K x
            obtain ⟨b, K, x, hb, rfl, hK, t1, t2, hown, hq⟩ := hrel
            by_cases hbm : b < m
            · obtain ⟨p0, p1, p2⟩ := place3 (r := r) hm hgm hbm
              rw [← hK.out] at p0 p1 p2
              have kg0 := Lib.hid (Calls.grown_of (w := wr) (f := 78) fun W _ => (refCoord_any (w := W) hm hm' hrm).mono fun e w' ⟨he, hd⟩ => ⟨he, by rw [hd]; exact Below.refl _ _⟩)
              have kg1 := Lib.hid (Calls.grown_of (w := wr) (f := 78) fun W _ => (refCoord_any (w := W) hm hm' hgm).mono fun e w' ⟨he, hd⟩ => ⟨he, by rw [hd]; exact Below.refl _ _⟩)
              have kg2 := Lib.hid (Calls.grown_of (w := wr) (f := 78) fun W _ => (refCoord_any (w := W) hm hm' hbm).mono fun e w' ⟨he, hd⟩ => ⟨he, by rw [hd]; exact Below.refl _ _⟩)
              have kc := Lib.hid (Calls.grown_of (w := wr) (f := 75) fun W hW => refConvert_any (c := crd m K) (w := W) hn1 hn (Nat.le_trans hB (Nat.le_trans hq.size hW.size)) (HC.out.below (hq.trans (hW.mono hq.size)) hB) HV.out)
              have kgm := Lib.hid (Calls.grown_of (w := wr) (f := 71) fun W hW => refGamut_any (c := cnv S (crd m K) (n - 1)) (w := W))
              rw [show argV r m = crd m K 0 by rw [crd_0, p0]] at kg0
              rw [show argV g m = crd m K 1 by rw [crd_1, p1]] at kg1
              rw [show argV b m = crd m K 2 by rw [crd_2, p2]] at kg2
              have hKm : K < m * m * m := by
                have h1 : (r * m + g) * m + b < (r * m + g) * m + m := by omega
                have h2 : (r * m + g) * m + m = (r * m + g + 1) * m := by rw [Nat.add_mul _ 1, Nat.one_mul]
                have h3 : r * m + g + 1 ≤ m * m := by
                  have : r * m + m ≤ m * m := by rw [show r * m + m = (r + 1) * m by rw [Nat.add_mul, Nat.one_mul]]; exact Nat.mul_le_mul_right m (by omega)
                  omega
                have h4 := Nat.mul_le_mul_right m h3
                have h5 := hK.out
                omega
              unfold col at kc kgm
              have d1 := cell_regrown t2.c1
              have P2 := Lib.hid t1
              have P3 := Lib.hid t2
              have HO := Lib.hid hown
              clear t1 t2 hown p0 p1 p2
              go_wp2
              refine region_act3 2 13 2 (by kernel_rfl) (by kernel_rfl) (by kernel_rfl) rfl rfl (by kernel_rfl) (by kernel_rfl) (by kernel_rfl) (fun _ _ d _ _ h => by cases d <;> exact h) (fun a w' => build_mid rfl rfl a w') ?_
              simp only [List.take_succ_cons, List.take_zero, List.drop_succ_cons, List.drop_zero]
              refine pureW_step (.pointer (some ⟨w.heap.size + 1, 1, none⟩)) rfl (fun w' hw' => ?_) (fun K' hK' => ?_)
              · obtain ⟨p, rfl⟩ := hw'
                go_simp
              go_simp
              refine hK' _ ?_
              clear hK' K'
              refine pureW_step x rfl (fun w' hw' => ?_) (fun K' hK' => ?_)
              · obtain ⟨p, rfl⟩ := hw'
                go_simp
              go_simp
              refine hK' _ ?_
              clear hK' K'
              refine pureW_nil ?_
              change wpQuiet _ _ _ _ _ _
              repeat (go_big_quiet_step ((first | with_reducible exact kg0.out _ _ | with_reducible exact kg1.out _ _ | with_reducible exact kg2.out _ _ | with_reducible exact kc.out _ _ | with_reducible exact kgm.out _ _)))
              refine wpQuiet_nil ?_
              intro w5 hw2
              replace hw2 := below_of_regrown hw2
              have t1 := P2.out.on hw2
              have t2 := P3.out.on hw2
              have ho := own_below HO.out hw2
              have hq2 := hq.trans (hw2.mono hq.size)
              have hz := t2.lt
              have Q2 := Lib.hid (t1.alloc (.cells #[.int .i64 (gam (cnv S (crd m K) (n - 1)) 0), .int .i64 (gam (cnv S (crd m K) (n - 1)) 1), .int .i64 (gam (cnv S (crd m K) (n - 1)) 2)] 28))
              have Q3 := Lib.hid (t2.alloc (.cells #[.int .i64 (gam (cnv S (crd m K) (n - 1)) 0), .int .i64 (gam (cnv S (crd m K) (n - 1)) 1), .int .i64 (gam (cnv S (crd m K) (n - 1)) 2)] 28))
              have HO2 := Lib.hid ho
              clear t1 t2 ho d1
              go_wp2_with (at_builtin; refine wpList_append_own _ rfl _ _ 29 rfl (w.heap.size + 2) 28 i0 (.agg #[.int .i64 0, .int .i64 0, .int .i64 0]) 3 24 Try.underlying29 hi hz0 hz1 hz2 rfl (by decide) _ K (vals3 (tabV S n m) K) rfl (HO2.out.alloc _) ⟨w5.heap.size, 0, none⟩ 1 1 [.int .i64 (gam (cnv S (crd m K) (n - 1)) 0), .int .i64 (gam (cnv S (crd m K) (n - 1)) 1), .int .i64 (gam (cnv S (crd m K) (n - 1)) 2)] rfl rfl (cells_new3 _ _ _ _ _) (by simp [Value.oneCell']) (by unfold maxLen; omega) (by omega) (by simp; omega) ?_; intro x' w6 hown' hgrow _; obtain ⟨gb, cap', rfl⟩ := own_succ hown'; have hB6 := (Below.refl (w.heap.size + 2) _).grown hgrow (by simp; omega) (fun j hj => (HO2.out.lt j hj).1); have R2 := Lib.hid (Q2.out.below hB6 (by omega)); have r3 := Q3.out.below hB6 (by omega); have c1 := r3.c1; have f1 := r3.free 1; have R3 := Lib.hid r3; have HO3 := Lib.hid hown'; clear r3 hown' hgrow)
              have hq6 := (hq2.alloc hq2.size (.cells #[.int .i64 (gam (cnv S (crd m K) (n - 1)) 0), .int .i64 (gam (cnv S (crd m K) (n - 1)) 1), .int .i64 (gam (cnv S (crd m K) (n - 1)) 2)] 28)).trans (below_le hB6 (by omega))
              go_roundw
              case rel => exact ⟨b + 1, K + 1, _, by omega, by go_num, Lib.hid (by rw [hK.out]; omega), R2.out.keep (by omega), R3.out.set1 _, by rw [vals3_snoc]; exact own_keep HO3.out (by omega), hq6.setCell (by simp) _⟩
              case measure => simp [intOf]; omega
            · obtain rfl : b = m := by omega
              have T1' := Lib.hid t1
              have T2' := Lib.hid t2
              have HO' := Lib.hid hown
              clear t1 t2 hown
              go_wp2
              go_roundw
              case rel => exact ⟨g + 1, K, x, by omega, by go_num, Lib.hid (by rw [hK.out, ← Nat.add_assoc, Nat.add_mul (r * b + g) 1, Nat.one_mul]), T1'.out, T2'.out, HO'.out, hq⟩
              case measure => simp [intOf]; omega
        · obtain rfl : g = m := by omega
          have T1' := Lib.hid t1
          have T2' := Lib.hid t2
          have HO' := Lib.hid hown
          clear t1 t2 hown
          go_wp2
          go_roundw
          case rel => exact ⟨r + 1, K, x, by omega, by go_num, Lib.hid (by rw [hK.out, Nat.add_mul r 1, Nat.one_mul]), T1'.out, T2'.out, HO'.out, hq⟩
          case measure => simp [intOf]; omega
    · obtain rfl : r = m := by omega
      have hKe : K = r * r * r := hK.out
      have HO := Lib.hid hown
      obtain ⟨gb, cap', rfl⟩ := own_pos hown (by omega)
      have x0 := t2.c0
      have x1 := t2.c1
      have z0 := t1.c0
      have z1 := t1.c1
      have y0 := t1.free 0
      have y1 := t1.free 1
      have HKE := Lib.hid hKe
      clear t1 t2 hown hKe
      go_wp2
      refine bodyPost_ret (v := .agg #[.int .i64 r, .slice (some ⟨gb, 0, none⟩) K cap']) (by simp [results, Try.results45, go_sem, *]) rfl ?_
      exact ⟨_, rfl, by rw [← HKE.out]; exact own_le (own_keep (own_keep HO.out (by omega)) (by omega)) (by omega), set2_below hq (Nat.le_refl _) _ _⟩

end Go.Proofs.Ytmilljlkcbljpaa

/- Convert, Table, Worst of the reference. -/
namespace Go.Proofs.Ytmilljlkcbljpaa
open Go.RowKit Go.Sort

/-- What the reference returns, as cells. -/
def gotA (c : Nat → Int) (N : Int) (x : Value) (k : Int) (p : Nat → Int) (e : Int) : Array Value := #[.int .i64 (c 0), .int .i64 (c 1), .int .i64 (c 2), .int .i64 N, x, .int .i64 k, .int .u8 (p 0), .int .u8 (p 1), .int .u8 (p 2), .int .u8 (p 3), .int .i64 e]
def gotE (e : Int) : Array Value := gotA (fun _ => 0) 0 (.slice none 0 0) 0 (fun _ => 0) e
def gotG (N : Int) (x : Value) : Array Value := gotA (fun _ => 0) N x 0 (fun _ => 0) 0
def gotN (k : Int) : Array Value := gotA (fun _ => 0) 0 (.slice none 0 0) k (fun _ => 0) 0
def gotX (c : Nat → Int) : Array Value := gotA c 0 (.slice none 0 0) 0 (fun _ => 0) 0
def gotP (p : Nat → Int) : Array Value := gotA (fun _ => 0) 0 (.slice none 0 0) 0 p 0
theorem gotA_one (c : Nat → Int) (N : Int) (a : Option Addr) (l s : Nat) (k : Int) (p : Nat → Int) (e : Int) : (gotA c N (.slice a l s) k p e).all (·.oneCell') = true := by simp [gotA, Value.oneCell']
def Gox (w : World) (b : Nat) : Prop := w.heap[b]? = some (.cells (gotE 0) 36 (0, 0))
theorem Gox.on {w w' : World} {b : Nat} (h : Gox w b) (hb : Below w.heap.size w w') : Gox w' b := (hb.block b (Array.getElem?_eq_some_iff.1 h).1).trans h
theorem Gox.lt {w : World} {b : Nat} (h : Gox w b) : b < w.heap.size := (Array.getElem?_eq_some_iff.1 h).1
theorem gox_new (w : World) : ∃ w0, w.alloc (.cells #[.int .i64 0, .int .i64 0, .int .i64 0, .int .i64 0, .slice none 0 0, .int .i64 0, .int .u8 0, .int .u8 0, .int .u8 0, .int .u8 0, .int .i64 0] 36) = w0 ∧ Below w.heap.size w w0 ∧ Gox w0 w.heap.size :=
  ⟨_, rfl, (Below.refl _ w).alloc (Nat.le_refl _) _, heap_alloc_new w (.cells (gotE 0) 36)⟩

set_option maxRecDepth 100000 in
set_option maxHeartbeats 2000000 in
theorem refTable_chk {n B : Nat} {v : Value} {S : Nat → Sp} {m : Int} {w : World} (hn : n ≤ 9223372036854775807) (hB : B ≤ w.heap.size) (hc : Chn w B v n S) (he : chkV n S ≠ 0) :
    Calls Try.prog 14 #[v, .int .i64 m] w fun e w' => e = .returned (.agg (gotE (chkV n S))) ∧ Below w.heap.size w w' := by
  obtain ⟨w0, h0, hb0, t1⟩ := gox_new w
  have T1 := Lib.hid t1
  have kc := Lib.hid (refCheck_any (w := w0) hn (Nat.le_trans hB hb0.size) (hc.below hb0 hB))
  obtain ⟨E, hE⟩ : ∃ E, chkV n S = E := ⟨_, rfl⟩
  rw [hE] at kc he ⊢
  have d0 : (E != 0) = true := by simpa using he
  clear t1 hc he hE
  go_enter Try.func14, Try.ntmps14
  go_wp2_with fail
  refine kc.out.mono ?_
  rintro e w1 ⟨rfl, hb1⟩
  have T2 := Lib.hid (T1.out.on hb1)
  have hq := hb0.trans (hb1.mono hb0.size)
  clear h0
  go_wp2_with (refine list_store (cs := gotE E) rfl 36 (.tmp 4) (.tmp 11) (by rfl) (by rfl) (by rfl) T2.out info_got rfl (gotA_one _ _ _ _ _ _ _ _) ?_; intro W4 h4 hx; have h4' := Lib.hid h4; clear h4)
  refine bodyPost_ret (v := .agg (gotE E)) (results_cell_row rfl _ _ w.heap.size _ _ _ _ rfl h4'.out Try.underlying36 rfl info_got) rfl ?_
  exact ⟨rfl, Exc.below hq hx (Nat.le_refl _) hq.size⟩

set_option maxRecDepth 100000 in
set_option maxHeartbeats 2000000 in
theorem refTable_size {n B : Nat} {v : Value} {S : Nat → Sp} {m : Int} {w : World} (hn : n ≤ 9223372036854775807) (hB : B ≤ w.heap.size) (hc : Chn w B v n S) (he : chkV n S = 0) (hm : ¬ (2 ≤ m ∧ m ≤ 17)) :
    Calls Try.prog 14 #[v, .int .i64 m] w fun e w' => e = .returned (.agg (gotE 1)) ∧ Below w.heap.size w w' := by
  obtain ⟨w0, h0, hb0, t1⟩ := gox_new w
  have T1 := Lib.hid t1
  have kc := Lib.hid (refCheck_any (w := w0) hn (Nat.le_trans hB hb0.size) (hc.below hb0 hB))
  rw [he] at kc
  clear t1 hc he
  by_cases h2 : m < 2
  · have d1 : decide (m < 2) = true := decide_eq_true h2
    go_enter Try.func14, Try.ntmps14
    go_wp2_with fail
    refine kc.out.mono ?_
    rintro e w1 ⟨rfl, hb1⟩
    have T2 := Lib.hid (T1.out.on hb1)
    have hq := hb0.trans (hb1.mono hb0.size)
    clear h0
    go_wp2_with (refine list_store (cs := gotE 1) rfl 36 (.tmp 4) (.tmp 18) (by rfl) (by rfl) (by rfl) T2.out info_got rfl (gotA_one _ _ _ _ _ _ _ _) ?_; intro W4 h4 hx; have h4' := Lib.hid h4; clear h4)
    refine bodyPost_ret (v := .agg (gotE 1)) (results_cell_row rfl _ _ w.heap.size _ _ _ _ rfl h4'.out Try.underlying36 rfl info_got) rfl ?_
    exact ⟨rfl, Exc.below hq hx (Nat.le_refl _) hq.size⟩
  · have d1 : decide (m < 2) = false := decide_eq_false h2
    have d2 : decide (17 < m) = true := decide_eq_true (by omega)
    go_enter Try.func14, Try.ntmps14
    go_wp2_with fail
    refine kc.out.mono ?_
    rintro e w1 ⟨rfl, hb1⟩
    have T2 := Lib.hid (T1.out.on hb1)
    have hq := hb0.trans (hb1.mono hb0.size)
    clear h0
    go_wp2_with (refine list_store (cs := gotE 1) rfl 36 (.tmp 4) (.tmp 18) (by rfl) (by rfl) (by rfl) T2.out info_got rfl (gotA_one _ _ _ _ _ _ _ _) ?_; intro W4 h4 hx; have h4' := Lib.hid h4; clear h4)
    refine bodyPost_ret (v := .agg (gotE 1)) (results_cell_row rfl _ _ w.heap.size _ _ _ _ rfl h4'.out Try.underlying36 rfl info_got) rfl ?_
    exact ⟨rfl, Exc.below hq hx (Nat.le_refl _) hq.size⟩

set_option maxRecDepth 100000 in
set_option maxHeartbeats 2000000 in
theorem refTable_yes {n m B : Nat} {v : Value} {S : Nat → Sp} {w : World} (hn : n ≤ 9223372036854775807) (hB : B ≤ w.heap.size) (hc : Chn w B v n S) (he : chkV n S = 0) (hm : 2 ≤ m) (hm' : m ≤ 17) :
    Calls Try.prog 14 #[v, .int .i64 m] w fun e w' => ∃ x, e = .returned (.agg (gotG m x)) ∧ w'.ownsRow w.heap.size 28 3 x (m * m * m) (vals3 (tabV S n m) (m * m * m)) ∧ Below w.heap.size w w' := by
  obtain ⟨w0, h0, hb0, t1⟩ := gox_new w
  have T1 := Lib.hid t1
  have kc := Lib.hid (refCheck_any (w := w0) hn (Nat.le_trans hB hb0.size) (hc.below hb0 hB))
  obtain ⟨c1, c2, c3⟩ := chkV_ok he
  have HC := Lib.hid hc
  have HV := Lib.hid c3
  rw [he] at kc
  have d1 : decide ((m : Int) < 2) = false := decide_eq_false (by omega)
  have d2 : decide ((17 : Int) < m) = false := decide_eq_false (by omega)
  have q8 := (cube_bd hm hm').1
  have l0 := t1.lt
  clear t1 hc he c3
  go_enter Try.func14, Try.ntmps14
  go_wp2_with fail
  refine kc.out.mono ?_
  rintro e w1 ⟨rfl, hb1⟩
  have hq := hb0.trans (hb1.mono hb0.size)
  have T2 := Lib.hid (T1.out.on hb1)
  have l1 : w.heap.size < w1.heap.size := Nat.lt_of_lt_of_le l0 hb1.size
  clear h0 hb1
  go_wp2_with fail
  refine (refTable_some (n := n) (S := S) (B := B) (by omega) (by omega) hm hm' (Nat.le_trans hB hq.size) (HC.out.below hq hB) HV.out).mono ?_
  rintro e w2 ⟨x, rfl, hown, hb2⟩
  obtain ⟨gb, cap, rfl⟩ := own_pos hown (by omega)
  have T3 := Lib.hid (T2.out.on hb2)
  have hq2 := hq.trans (hb2.mono hq.size)
  have HO := Lib.hid hown
  clear hown hb2
  go_wp2_with (refine list_store (cs := gotG m (.slice (some ⟨gb, 0, none⟩) (m * m * m) cap)) rfl 36 (.tmp 4) (.tmp 22) (by rfl) (by rfl) (by rfl) T3.out info_got rfl (gotA_one _ _ _ _ _ _ _ _) ?_; intro W4 h4 hx; have h4' := Lib.hid h4; clear h4)
  refine bodyPost_ret (v := .agg (gotG m (.slice (some ⟨gb, 0, none⟩) (m * m * m) cap))) (results_cell_row rfl _ _ w.heap.size _ _ _ _ rfl h4'.out Try.underlying36 rfl info_got) rfl ?_
  exact ⟨_, rfl, own_le (own_exc HO.out hx l1) (Nat.le_of_lt l1), Exc.below hq2 hx (Nat.le_refl _) hq2.size⟩

set_option maxRecDepth 100000 in
set_option maxHeartbeats 8000000 in
theorem refWorst1_any {n N l m B : Nat} {v vg vl : Value} {S : Nat → Sp} {g L : Nat → Nat → Int} {w : World} (hn1 : 1 ≤ n) (hn : n ≤ 4096) (hl : l ≤ 1000000) (hB : B ≤ w.heap.size) (hc : Chn w B v n S) (hv : ∀ k, k < n → (S k).val = true)
    (hG : GrV N m g) (hg : Cls w B vg m g) (hL : Cls w B vl l L) :
    Calls Try.prog 50 #[v, .agg #[.int .i64 N, vg], vl] w fun e w' => e = .returned (.int .i64 (wstV S n N g L l)) ∧ Below w.heap.size w w' := by
  obtain ⟨w0, h0⟩ : ∃ w0, w.alloc (.cells #[.int .i64 N, vg] 31) = w0 := ⟨_, rfl⟩
  have t1 : Two 31 w0 w.heap.size (.int .i64 N) vg := by rw [← h0]; exact Two.new w _ _ _
  have hb0 : Below w.heap.size w w0 := by rw [← h0]; exact (Below.refl _ _).alloc (Nat.le_refl _) _
  have T1 := Lib.hid t1
  have HC := Lib.hid hc
  have HV := Lib.hid hv
  have HG := Lib.hid hG
  have HGC := Lib.hid hg
  have HL := Lib.hid hL
  have HA : Hid (∀ k, k < l → InG (wA S n L k)) := Lib.hid (fun k _ => InG.of _)
  have HB : Hid (∀ k, k < l → InG (wB N g L k)) := Lib.hid (fun k _ => lkV_gam hG _)
  have hsh := hL.shape
  have hgs := hg.shape
  obtain ⟨al, cl, rfl⟩ := hsh
  obtain ⟨ag, cg, rfl⟩ := hgs
  clear t1 hc hv hG hg hL
  go_enter Try.func50, Try.ntmps50
  go_wp2
  clear h0
  go_loopw [7, 8] (fun e i wr => ∃ k : Nat, k ≤ l ∧ i = .int .i64 k ∧ e = .int .i64 (wsV (wA S n L) (wB N g L) k) ∧ Below w.heap.size w wr ∧ Two 31 wr w.heap.size (.int .i64 N) (.slice ag m cg)) (fun _ i _ => l - (intOf i).toNat)
  case atStart => exact ⟨0, by omega, rfl, rfl, hb0, T1.out⟩
  case round =>
    obtain ⟨k, hk, rfl, rfl, hq, t1⟩ := hrel
    by_cases hlt : k < l
    · have hLr := HL.out.below hq hB
      obtain ⟨lb, lo, lc, e1, e2, e3⟩ := hLr.at (by omega)
      cases e1
      have c0 := e3 k hlt 0 (by omega)
      have c1 := e3 k hlt 1 (by omega)
      have c2 := e3 k hlt 2 (by omega)
      rw [Nat.add_zero] at c0
      have hqs := hq.size
      have i1 : 0 ≤ (k : Int) ∧ (k : Int) < l := by omega
      have U0 := Lib.hid t1
      have kc := Lib.hid (refConvert_any (c := L k) (w := wr) hn1 hn (Nat.le_trans hB hq.size) (HC.out.below hq hB) HV.out)
      unfold col at kc
      have eA := Lib.hid (show gam (cnv S (L k) (n - 1)) = wA S n L k from rfl)
      obtain ⟨b, hbv⟩ : ∃ b, wB N g L k = b := ⟨_, rfl⟩
      obtain ⟨a, hav⟩ : ∃ a, wA S n L k = a := ⟨_, rfl⟩
      have hGa : InG a := by rw [← hav]; exact HA.out k hlt
      have hGb : InG b := by rw [← hbv]; exact HB.out k hlt
      have hE : wsV (wA S n L) (wB N g L) (k + 1) = wc a b (wsV (wA S n L) (wB N g L) k) 3 := by show wc _ _ _ 3 = _; rw [hav, hbv]
      obtain ⟨E0, hE0⟩ : ∃ E0, wsV (wA S n L) (wB N g L) k = E0 := ⟨_, rfl⟩
      have hE01 : 0 ≤ E0 ∧ E0 ≤ 65535 := by rw [← hE0]; exact wsV_bd HA.out HB.out k hk
      rw [hav] at eA
      rw [hE0] at hE ⊢
      have HE := Lib.hid hE
      have HBV := Lib.hid (show lkV N g (L k) = b from hbv)
      have HGA := Lib.hid hGa
      have HGB := Lib.hid hGb
      clear hLr e3 t1 hE hGa hGb hav hbv hE0
      go_wp2_with fail
      refine kc.out.mono ?_
      rintro e w1 ⟨rfl, hb1⟩
      have hq1 := hq.trans (hb1.mono hq.size)
      have kg := Lib.hid (refGamut_any (c := cnv S (L k) (n - 1)) (w := w1))
      rw [eA.out] at kg
      unfold col at kg
      clear c0 c1 c2
      go_wp2_with fail
      refine kg.out.mono ?_
      rintro e w2 ⟨rfl, hb2⟩
      have hb12 := hb1.trans (hb2.mono hb1.size)
      obtain ⟨w3, h3⟩ : ∃ w3, w2.alloc (.cells #[.int .i64 (a 0), .int .i64 (a 1), .int .i64 (a 2)] 28) = w3 := ⟨_, rfl⟩
      have hb3 : Below w2.heap.size w2 w3 := by rw [← h3]; exact (Below.refl _ _).alloc (Nat.le_refl _) _
      have ta : Tri 28 w3 w2.heap.size a := by rw [← h3]; exact Tri.new w2 a _
      have hbr3 : Below wr.heap.size wr w3 := hb12.trans (hb3.mono hb12.size)
      have hq3 := hq.trans (hbr3.mono hq.size)
      have hL3 := HL.out.below hq3 hB
      obtain ⟨lb', lo', lc', e1', e2', e3'⟩ := hL3.at (by omega)
      cases e1'
      have r0 := cell_regrown (e3' k hlt 0 (by omega))
      have r1 := cell_regrown (e3' k hlt 1 (by omega))
      have r2 := cell_regrown (e3' k hlt 2 (by omega))
      simp only [Nat.add_zero] at r0
      have t3 := U0.out.on hbr3
      have s0 := cell_regrown t3.c0
      have s1 := cell_regrown t3.c1
      have U3 := Lib.hid t3
      have TA := Lib.hid ta
      have kl : Hid (∀ W, Below w3.heap.size w3 W → Calls Try.prog 54 #[.agg #[.int .i64 N, .slice ag m cg], .agg #[.int .i64 (L k 0), .int .i64 (L k 1), .int .i64 (L k 2)]] W fun e w' => e = .returned (.agg #[.int .i64 (b 0), .int .i64 (b 1), .int .i64 (b 2)]) ∧ Below W.heap.size W w') := Lib.hid (fun W hW => by
        have hqW := hq3.trans (hW.mono hq3.size)
        have := refLook1_any (c := L k) (w := W) HG.out (Nat.le_trans hB hqW.size) (HGC.out.below hqW hB)
        rw [HBV.out] at this
        exact this)
      clear hL3 e3' t3 ta hb1 hb2 hb12 hb3 hbr3 U0
      go_upto_region 6 with fail
      clear h3
      go_cut [10] from 12 to 50 (fun p wx => ∃ bb : Nat, p = .pointer (some ⟨bb, 0, none⟩) ∧ Tri 28 wx bb b ∧ Below w3.heap.size w3 wx)
      case first =>
        refine region_free [1, 2, 3, 0, 4] [5] [] 6 7 [] (by kernel_rfl) rfl rfl (by kernel_rfl) (by kernel_rfl) (by kernel_rfl) (by kernel_rfl) (by kernel_rfl) (by kernel_rfl) (fun _ _ d _ _ h => by cases d <;> exact h) ?_
        simp only [selL, List.filterMap_cons, List.filterMap_nil, List.getElem?_cons_zero, List.getElem?_cons_succ]
        refine pureW_step (.slice (some ⟨lb, lo, none⟩) l cl) rfl (fun w' _ => ?_) (fun K' hK' => ?_)
        · go_simp
        go_simp
        refine hK' _ ?_
        clear hK' K'
        refine pureW_step (.int .i64 (k : Int)) rfl (fun w' _ => ?_) (fun K' hK' => ?_)
        · go_simp
        go_simp
        refine hK' _ ?_
        clear hK' K'
        refine pureW_step (.pointer (some ⟨lb, lo + k * 3, none⟩)) rfl (fun w' _ => ?_) (fun K' hK' => ?_)
        · go_simp
        go_simp
        refine hK' _ ?_
        clear hK' K'
        refine pureW_step (.agg #[.int .i64 N, .slice ag m cg]) rfl (fun w' hw' => ?_) (fun K' hK' => ?_)
        · obtain ⟨p, rfl⟩ := hw'
          go_simp
        go_simp
        refine hK' _ ?_
        clear hK' K'
        refine pureW_step (.agg #[.int .i64 (L k 0), .int .i64 (L k 1), .int .i64 (L k 2)]) rfl (fun w' hw' => ?_) (fun K' hK' => ?_)
        · obtain ⟨p, rfl⟩ := hw'
          go_simp
        go_simp
        refine hK' _ ?_
        clear hK' K'
        refine pureW_nil ?_
        intro ws hws
        have hbs := hws.below
        clear hws r0 r1 r2 s0 s1
        refine ⟨?_, ?_⟩
        · obtain ⟨W2, hW2⟩ : ∃ W2, ws.alloc (.cells #[.int .i64 0, .int .i64 0, .int .i64 0] 28) = W2 := ⟨_, rfl⟩
          have hb2' : Below ws.heap.size ws W2 := by rw [← hW2]; exact (Below.refl _ _).alloc (Nat.le_refl _) _
          have tz : Tri 28 W2 ws.heap.size (fun _ => 0) := by rw [← hW2]; exact Tri.new ws (fun _ => 0) _
          have hbW := hbs.trans (hb2'.mono hbs.size)
          have kq0 := Lib.hid (Calls.grown_of (w := W2) fun W hW => kl.out W (hbW.trans (hW.mono hbW.size)))
          have TZ := Lib.hid tz
          clear tz
          go_wp2
          show _ ∧ _
          refine ⟨.of hbW, ?_⟩
          clear hW2
          simp only [List.append_nil]
          change wpQuiet _ _ (fun w' => ∃ p : Regrown, w' = grow (redrawn W2 p.d) p.os) _ (_ :: []) _
          repeat (go_big_quiet_step ((first | with_reducible exact kq0.out _ _)))
          refine wpQuiet_nil ?_
          intro w9 hw9
          replace hw9 := Cw.below hw9
          have tz := TZ.out.on hw9
          have hb9' := hbW.trans (hw9.mono hbW.size)
          have x0 := tz.c0
          have x1 := tz.c1
          have x2 := tz.c2
          have y0 := tz.free 0
          have y1 := tz.free 1
          have y2 := tz.free 2
          have TZ9 := Lib.hid (tz.set3 b)
          clear tz
          go_wp2
          go_meet
          exact ⟨_, rfl, TZ9.out, set3_below hb9' (by have := hbs.size; simpa using this) _ _ _⟩
        · go_wp2_with fail
          refine (kl.out ws hbs).mono ?_
          rintro e wc0 ⟨rfl, hbc0⟩
          have hbd0 := hbs.trans (hbc0.mono hbs.size)
          go_wp2
          show _ ∧ _
          refine ⟨.of hbd0, ?_⟩
          refine pureW_nil ?_
          intro wt hwt
          have hbt := hwt.below
          obtain ⟨W2, hW2⟩ : ∃ W2, wt.alloc (.cells #[.int .i64 0, .int .i64 0, .int .i64 0] 28) = W2 := ⟨_, rfl⟩
          have hb2' : Below wt.heap.size wt W2 := by rw [← hW2]; exact (Below.refl _ _).alloc (Nat.le_refl _) _
          have tz : Tri 28 W2 wt.heap.size (fun _ => 0) := by rw [← hW2]; exact Tri.new wt (fun _ => 0) _
          have hbW := hbt.trans (hb2'.mono hbt.size)
          go_wp2
          show _ ∧ _
          refine ⟨.of hbW, ?_⟩
          clear hW2
          have x0 := tz.c0
          have x1 := tz.c1
          have x2 := tz.c2
          have y0 := tz.free 0
          have y1 := tz.free 1
          have y2 := tz.free 2
          have TZ9 := Lib.hid (tz.set3 b)
          clear tz
          go_wp2
          go_meet
          exact ⟨_, rfl, TZ9.out, set3_below hbW (by have := hbt.size; simpa using this) _ _ _⟩
      case rest =>
        obtain ⟨wo, rfl⟩ : ∃ wo : World, wo = wc := ⟨_, rfl⟩
        obtain ⟨bb, rfl, tb, hbc⟩ := hcut
        have TB := Lib.hid tb
        have TAc := Lib.hid (TA.out.on hbc)
        have U5 := Lib.hid (U3.out.on hbc)
        have hq5 := hq3.trans (hbc.mono hq3.size)
        clear tb hbc r0 r1 r2 s0 s1
        go_wp2
        go_loopw [7, 11] (fun e i wr => ∃ j : Nat, j ≤ 3 ∧ i = .int .i64 j ∧ e = .int .i64 (wc a b E0 j) ∧ Drawn wo wr) (fun _ i _ => 3 - (intOf i).toNat)
        case atStart => exact ⟨0, by omega, rfl, rfl, .refl _⟩
        case round =>
          obtain ⟨j, hj, rfl, rfl, hd⟩ := hrel
          by_cases hjl : j < 3
          · have ca := (TAc.out.on (hd.below _)).cell j hjl
            have cb := (TB.out.on (hd.below _)).cell j hjl
            have a1 := HGA.out j hjl
            have b1 := HGB.out j hjl
            have e1 := wc_bd HGA.out HGB.out hE01.1 hE01.2 j hj
            have HS := Lib.hid (show wc a b E0 (j + 1) = mx3 (wc a b E0 j) (a j - b j) (b j - a j) from rfl)
            have hmx := fun (ts : Array TypeId) (t : TypeId) (w : World) => run_mx3 ts t (wc a b E0 j) (a j - b j) (b j - a j) w
            generalize mx3 (wc a b E0 j) (a j - b j) (b j - a j) = M at *
            generalize wc a b E0 j = Ej at *
            generalize a j = aj at *
            generalize b j = bj at *
            have i2 : 0 ≤ (j : Int) ∧ (j : Int) < 3 := by omega
            have HD := Lib.hid hd
            clear hd
            go_wp2
            go_quiet (fail)
            go_wp2
            exact ⟨⟨j + 1, by omega, by go_num, by rw [HS.out], HD.out.on _⟩, by simp [intOf]; omega⟩
          · obtain rfl : j = 3 := by omega
            have U6 := Lib.hid (U5.out.on (hd.below _))
            have hq6 := Lib.hid (hq5.trans ((hd.below _).mono hq5.size))
            clear hd
            go_wp2
            go_roundw
            case rel => exact ⟨k + 1, by omega, by go_num, by rw [HE.out], hq6.out, U6.out⟩
            case measure => simp [intOf]; omega
    · obtain rfl : k = l := by omega
      clear t1
      go_wp2
      go_ret
      exact ⟨rfl, hq⟩

end Go.Proofs.Ytmilljlkcbljpaa

/- Worst and Convert of the reference. -/
namespace Go.Proofs.Ytmilljlkcbljpaa
open Go.RowKit Go.Sort

theorem gridG_new (w : World) (n : Int) (v : Value) (tg : TypeId) : ∃ w0, (w.alloc (.cells #[.int .i64 n, v] tg)).alloc (.cells #[.int .i64 0, .int .i64 0, .int .i64 0, .int .i64 0, .slice none 0 0, .int .i64 0, .int .u8 0, .int .u8 0, .int .u8 0, .int .u8 0, .int .i64 0] 36) = w0 ∧
    Below w.heap.size w w0 ∧ Two tg w0 w.heap.size (.int .i64 n) v ∧ Gox w0 (w.heap.size + 1) := by
  refine ⟨_, rfl, ((Below.refl _ w).alloc (Nat.le_refl _) _).alloc (by simp) _, (Two.new w _ v tg).alloc _, ?_⟩
  have h := heap_alloc_new (w.alloc (.cells #[.int .i64 n, v] tg)) (.cells (gotE 0) 36)
  rw [World.size_alloc] at h
  exact h
theorem colG_new (w : World) (c : Nat → Int) (t : TypeId) : ∃ w0, (w.alloc (.cells #[.int .i64 (c 0), .int .i64 (c 1), .int .i64 (c 2)] t)).alloc (.cells #[.int .i64 0, .int .i64 0, .int .i64 0, .int .i64 0, .slice none 0 0, .int .i64 0, .int .u8 0, .int .u8 0, .int .u8 0, .int .u8 0, .int .i64 0] 36) = w0 ∧
    Below w.heap.size w w0 ∧ Tri t w0 w.heap.size c ∧ Gox w0 (w.heap.size + 1) := by
  refine ⟨_, rfl, ((Below.refl _ w).alloc (Nat.le_refl _) _).alloc (by simp) _, (Tri.new w c t).alloc _, ?_⟩
  have h := heap_alloc_new (w.alloc (.cells #[.int .i64 (c 0), .int .i64 (c 1), .int .i64 (c 2)] t)) (.cells (gotE 0) 36)
  rw [World.size_alloc] at h
  exact h

set_option maxRecDepth 100000 in
set_option maxHeartbeats 2000000 in
theorem refWorst_chk {n N l m B : Nat} {v vg vl : Value} {S : Nat → Sp} {g L : Nat → Nat → Int} {w : World} (hn : n ≤ 9223372036854775807) (hB : B ≤ w.heap.size) (hc : Chn w B v n S) (he : chkV n S ≠ 0) (hg : Cls w B vg m g) (hL : Cls w B vl l L) :
    Calls Try.prog 18 #[v, .agg #[.int .i64 N, vg], vl] w fun e w' => e = .returned (.agg (gotE (chkV n S))) ∧ Below w.heap.size w w' := by
  obtain ⟨w0, h0, hb0, t1, t2⟩ := gridG_new w N vg 31
  have kc := Lib.hid (refCheck_any (w := w0) hn (Nat.le_trans hB hb0.size) (hc.below hb0 hB))
  have HG := Lib.hid hg
  have HC := Lib.hid hc
  have HL := Lib.hid hL
  obtain ⟨al, cl, rfl⟩ := hL.shape
  obtain ⟨ag, cg, rfl⟩ := hg.shape
  have T1 := Lib.hid t1
  have T2 := Lib.hid t2
  have l0 := t2.lt
  obtain ⟨E, hE⟩ : ∃ E, chkV n S = E := ⟨_, rfl⟩
  rw [hE] at kc he ⊢
  have e0 : (E != 0) = true := by simpa using he
  clear hc hg hL he hE t1 t2
  go_enter Try.func18, Try.ntmps18
  go_wp2_with fail
  refine kc.out.mono ?_
  rintro e w1 ⟨rfl, hb1⟩
  have hq := hb0.trans (hb1.mono hb0.size)
  have t1 := T1.out.on hb1
  have T22 := Lib.hid (T2.out.on hb1)
  have g0 := t1.c0
  have g1 := t1.c1
  have U1 := Lib.hid t1
  clear h0 t1
  go_wp2_with (refine list_store (cs := gotE E) rfl 36 (.tmp 6) (.tmp 14) (by rfl) (by rfl) (by rfl) T22.out info_got rfl (gotA_one _ _ _ _ _ _ _ _) ?_; intro W4 h4 hx; have h4' := Lib.hid h4; clear h4)
  refine bodyPost_ret (v := .agg (gotE E)) (results_cell_row rfl _ _ (w.heap.size + 1) _ _ _ _ rfl h4'.out Try.underlying36 rfl info_got) rfl ?_
  exact ⟨rfl, Exc.below hq hx (by omega) hq.size⟩

set_option maxRecDepth 100000 in
set_option maxHeartbeats 2000000 in
theorem refWorst_no {n N l m B : Nat} {v vg vl : Value} {S : Nat → Sp} {g L : Nat → Nat → Int} {w : World} (hn : n ≤ 9223372036854775807) (hN : N ≤ 1000000) (hB : B ≤ w.heap.size) (hc : Chn w B v n S) (he : chkV n S = 0) (hG : ¬ GrV N m g) (hg : Cls w B vg m g) (hL : Cls w B vl l L) :
    Calls Try.prog 18 #[v, .agg #[.int .i64 N, vg], vl] w fun e w' => e = .returned (.agg (gotE 1)) ∧ Below w.heap.size w w' := by
  obtain ⟨w0, h0, hb0, t1, t2⟩ := gridG_new w N vg 31
  have kc := Lib.hid (refCheck_any (w := w0) hn (Nat.le_trans hB hb0.size) (hc.below hb0 hB))
  have HG := Lib.hid hg
  have HC := Lib.hid hc
  have HL := Lib.hid hL
  obtain ⟨al, cl, rfl⟩ := hL.shape
  obtain ⟨ag, cg, rfl⟩ := hg.shape
  have T1 := Lib.hid t1
  have T2 := Lib.hid t2
  have l0 := t2.lt
  rw [he] at kc
  clear hc hg hL he t1 t2
  go_enter Try.func18, Try.ntmps18
  go_wp2_with fail
  refine kc.out.mono ?_
  rintro e w1 ⟨rfl, hb1⟩
  have hq := hb0.trans (hb1.mono hb0.size)
  have t1 := T1.out.on hb1
  have T22 := Lib.hid (T2.out.on hb1)
  have g0 := t1.c0
  have g1 := t1.c1
  have U1 := Lib.hid t1
  clear h0 t1
  have kv := Lib.hid (refGrid_any (N := N) (w := w1) hN (Nat.le_trans hB hq.size) (HG.out.below hq hB))
  rw [grB_f hG] at kv
  clear hG
  go_wp2_with fail
  refine kv.out.mono ?_
  rintro e w2 ⟨rfl, hb2⟩
  have hq2 := hq.trans (hb2.mono hq.size)
  have T23 := Lib.hid (T22.out.on hb2)
  clear g0 g1
  go_wp2_with (refine list_store (cs := gotE 1) rfl 36 (.tmp 6) (.tmp 19) (by rfl) (by rfl) (by rfl) T23.out info_got rfl (gotA_one _ _ _ _ _ _ _ _) ?_; intro W4 h4 hx; have h4' := Lib.hid h4; clear h4)
  refine bodyPost_ret (v := .agg (gotE 1)) (results_cell_row rfl _ _ (w.heap.size + 1) _ _ _ _ rfl h4'.out Try.underlying36 rfl info_got) rfl ?_
  exact ⟨rfl, Exc.below hq2 hx (by omega) hq2.size⟩

set_option maxRecDepth 100000 in
set_option maxHeartbeats 2000000 in
theorem refWorst_many {n N l m B : Nat} {v vg vl : Value} {S : Nat → Sp} {g L : Nat → Nat → Int} {w : World} (hn : n ≤ 9223372036854775807) (hl : 4096 < l) (hl' : l ≤ 1000000) (hB : B ≤ w.heap.size) (hc : Chn w B v n S) (he : chkV n S = 0) (hG : GrV N m g) (hg : Cls w B vg m g) (hL : Cls w B vl l L) :
    Calls Try.prog 18 #[v, .agg #[.int .i64 N, vg], vl] w fun e w' => e = .returned (.agg (gotE 2)) ∧ Below w.heap.size w w' := by
  obtain ⟨w0, h0, hb0, t1, t2⟩ := gridG_new w N vg 31
  have kc := Lib.hid (refCheck_any (w := w0) hn (Nat.le_trans hB hb0.size) (hc.below hb0 hB))
  have HG := Lib.hid hg
  have HC := Lib.hid hc
  have HL := Lib.hid hL
  obtain ⟨al, cl, rfl⟩ := hL.shape
  obtain ⟨ag, cg, rfl⟩ := hg.shape
  have T1 := Lib.hid t1
  have T2 := Lib.hid t2
  have l0 := t2.lt
  rw [he] at kc
  have dl : decide (4096 < (l : Int)) = true := decide_eq_true (by omega)
  clear hc hg hL he t1 t2
  go_enter Try.func18, Try.ntmps18
  go_wp2_with fail
  refine kc.out.mono ?_
  rintro e w1 ⟨rfl, hb1⟩
  have hq := hb0.trans (hb1.mono hb0.size)
  have t1 := T1.out.on hb1
  have T22 := Lib.hid (T2.out.on hb1)
  have g0 := t1.c0
  have g1 := t1.c1
  have U1 := Lib.hid t1
  clear h0 t1
  have kv := Lib.hid (refGrid_any (N := N) (w := w1) (by have := hG.2.1; omega) (Nat.le_trans hB hq.size) (HG.out.below hq hB))
  rw [grB_t hG] at kv
  have HGV := Lib.hid hG
  clear hG
  go_wp2_with fail
  refine kv.out.mono ?_
  rintro e w2 ⟨rfl, hb2⟩
  have hq2 := hq.trans (hb2.mono hq.size)
  have T23 := Lib.hid (T22.out.on hb2)
  have t2 := U1.out.on hb2
  clear g0 g1
  have g0 := t2.c0
  have g1 := t2.c1
  clear t2
  go_wp2_with (refine list_store (cs := gotE 2) rfl 36 (.tmp 6) (.tmp 23) (by rfl) (by rfl) (by rfl) T23.out info_got rfl (gotA_one _ _ _ _ _ _ _ _) ?_; intro W4 h4 hx; have h4' := Lib.hid h4; clear h4)
  refine bodyPost_ret (v := .agg (gotE 2)) (results_cell_row rfl _ _ (w.heap.size + 1) _ _ _ _ rfl h4'.out Try.underlying36 rfl info_got) rfl ?_
  exact ⟨rfl, Exc.below hq2 hx (by omega) hq2.size⟩

set_option maxRecDepth 100000 in
set_option maxHeartbeats 2000000 in
theorem refWorst_yes {n N l m B : Nat} {v vg vl : Value} {S : Nat → Sp} {g L : Nat → Nat → Int} {w : World} (hn : n ≤ 9223372036854775807) (hl : l ≤ 4096) (hB : B ≤ w.heap.size) (hc : Chn w B v n S) (he : chkV n S = 0) (hG : GrV N m g) (hg : Cls w B vg m g) (hL : Cls w B vl l L) :
    Calls Try.prog 18 #[v, .agg #[.int .i64 N, vg], vl] w fun e w' => e = .returned (.agg (gotN (wstV S n N g L l))) ∧ Below w.heap.size w w' := by
  obtain ⟨w0, h0, hb0, t1, t2⟩ := gridG_new w N vg 31
  have kc := Lib.hid (refCheck_any (w := w0) hn (Nat.le_trans hB hb0.size) (hc.below hb0 hB))
  have HG := Lib.hid hg
  have HC := Lib.hid hc
  have HL := Lib.hid hL
  obtain ⟨al, cl, rfl⟩ := hL.shape
  obtain ⟨ag, cg, rfl⟩ := hg.shape
  have T1 := Lib.hid t1
  have T2 := Lib.hid t2
  have l0 := t2.lt
  obtain ⟨k1, k2, k3⟩ := chkV_ok he
  have HK := Lib.hid k3
  rw [he] at kc
  have dl : decide (4096 < (l : Int)) = false := decide_eq_false (by omega)
  clear hc hg hL he t1 t2 k3
  go_enter Try.func18, Try.ntmps18
  go_wp2_with fail
  refine kc.out.mono ?_
  rintro e w1 ⟨rfl, hb1⟩
  have hq := hb0.trans (hb1.mono hb0.size)
  have t1 := T1.out.on hb1
  have T22 := Lib.hid (T2.out.on hb1)
  have g0 := t1.c0
  have g1 := t1.c1
  have U1 := Lib.hid t1
  clear h0 t1
  have kv := Lib.hid (refGrid_any (N := N) (w := w1) (by have := hG.2.1; omega) (Nat.le_trans hB hq.size) (HG.out.below hq hB))
  rw [grB_t hG] at kv
  have HGV := Lib.hid hG
  clear hG
  go_wp2_with fail
  refine kv.out.mono ?_
  rintro e w2 ⟨rfl, hb2⟩
  have hq2 := hq.trans (hb2.mono hq.size)
  have T23 := Lib.hid (T22.out.on hb2)
  have t2 := U1.out.on hb2
  clear g0 g1
  have g0 := t2.c0
  have g1 := t2.c1
  clear t2
  have kw := Lib.hid (refWorst1_any (w := w2) (by omega) (by omega) (by omega) (Nat.le_trans hB hq2.size) (HC.out.below hq2 hB) HK.out HGV.out (HG.out.below hq2 hB) (HL.out.below hq2 hB))
  go_wp2_with fail
  refine kw.out.mono ?_
  rintro e w3 ⟨rfl, hb3⟩
  have hq3 := hq2.trans (hb3.mono hq2.size)
  have T24 := Lib.hid (T23.out.on hb3)
  clear g0 g1
  go_wp2_with (refine list_store (cs := gotN (wstV S n N g L l)) rfl 36 (.tmp 6) (.tmp 28) (by rfl) (by rfl) (by rfl) T24.out info_got rfl (gotA_one _ _ _ _ _ _ _ _) ?_; intro W4 h4 hx; have h4' := Lib.hid h4; clear h4)
  refine bodyPost_ret (v := .agg (gotN (wstV S n N g L l))) (results_cell_row rfl _ _ (w.heap.size + 1) _ _ _ _ rfl h4'.out Try.underlying36 rfl info_got) rfl ?_
  exact ⟨rfl, Exc.below hq3 hx (by omega) hq3.size⟩

set_option maxRecDepth 100000 in
set_option maxHeartbeats 2000000 in
theorem refConvertG_any {n B : Nat} {v : Value} {S : Nat → Sp} {c : Nat → Int} {w : World} (hn : n ≤ 9223372036854775807) (hB : B ≤ w.heap.size) (hc : Chn w B v n S) :
    Calls Try.prog 37 #[v, col c] w fun e w' => e = .returned (.agg (gotA (cvtV n S c) 0 (.slice none 0 0) 0 (fun _ => 0) (chkV n S))) ∧ Below w.heap.size w w' := by
  obtain ⟨w0, h0, hb0, t1, t2⟩ := colG_new w c 28
  have kc := Lib.hid (refCheck_any (w := w0) hn (Nat.le_trans hB hb0.size) (hc.below hb0 hB))
  have T1 := Lib.hid t1
  have T2 := Lib.hid t2
  have HC := Lib.hid hc
  have l0 := t2.lt
  have d0 := t1.c0
  have d1 := t1.c1
  have d2 := t1.c2
  clear t1 t2
  by_cases he : chkV n S = 0
  · have hR : gotA (cvtV n S c) 0 (.slice none 0 0) 0 (fun _ => 0) 0 = gotX (cnv S c (n - 1)) := by
      have h : ∀ i, cvtV n S c i = cnv S c (n - 1) i := fun i => if_pos he
      unfold gotX gotA
      rw [h 0, h 1, h 2]
    rw [he] at kc ⊢
    rw [hR]
    obtain ⟨k1, k2, k3⟩ := chkV_ok he
    have HK := Lib.hid k3
    clear hR hc he k3
    unfold col
    go_enter Try.func37, Try.ntmps37
    go_wp2_with fail
    refine kc.out.mono ?_
    rintro e w1 ⟨rfl, hb1⟩
    have t1 := T1.out.on hb1
    have T2' := Lib.hid (T2.out.on hb1)
    have hq := hb0.trans (hb1.mono hb0.size)
    have kv := Lib.hid (refConvert_any (c := c) (w := w1) (by omega) (by omega) (Nat.le_trans hB hq.size) (HC.out.below hq hB) HK.out)
    unfold col at kv
    clear h0 d0 d1 d2 hb1
    have d0 := t1.c0
    have d1 := t1.c1
    have d2 := t1.c2
    clear t1
    go_wp2_with fail
    refine kv.out.mono ?_
    rintro e w2 ⟨rfl, hb2⟩
    have T3' := Lib.hid (T2'.out.on hb2)
    have hq2 := hq.trans (hb2.mono hq.size)
    clear d0 d1 d2
    go_wp2_with (refine list_store (cs := gotX (cnv S c (n - 1))) rfl 36 (.tmp 4) (.tmp 15) (by rfl) (by rfl) (by rfl) T3'.out info_got rfl (gotA_one _ _ _ _ _ _ _ _) ?_; intro W4 h4 hx; have h4' := Lib.hid h4; clear h4)
    refine bodyPost_ret (v := .agg (gotX (cnv S c (n - 1)))) (results_cell_row rfl _ _ (w.heap.size + 1) _ _ _ _ rfl h4'.out Try.underlying36 rfl info_got) rfl ?_
    exact ⟨rfl, Exc.below hq2 hx (by omega) hq2.size⟩
  · have hR : ∀ E, gotA (cvtV n S c) 0 (.slice none 0 0) 0 (fun _ => 0) E = gotE E := fun E => by
      have h : ∀ i, cvtV n S c i = 0 := fun i => if_neg he
      unfold gotE gotA
      rw [h 0, h 1, h 2]
    rw [hR]
    obtain ⟨E, hE⟩ : ∃ E, chkV n S = E := ⟨_, rfl⟩
    rw [hE] at kc he ⊢
    have e0 : (E != 0) = true := by simpa using he
    clear hR hc he hE
    unfold col
    go_enter Try.func37, Try.ntmps37
    go_wp2_with fail
    refine kc.out.mono ?_
    rintro e w1 ⟨rfl, hb1⟩
    have hq := hb0.trans (hb1.mono hb0.size)
    have T2' := Lib.hid (T2.out.on hb1)
    clear h0 hb1 d0 d1 d2
    go_wp2_with (refine list_store (cs := gotE E) rfl 36 (.tmp 4) (.tmp 11) (by rfl) (by rfl) (by rfl) T2'.out info_got rfl (gotA_one _ _ _ _ _ _ _ _) ?_; intro W4 h4 hx; have h4' := Lib.hid h4; clear h4)
    refine bodyPost_ret (v := .agg (gotE E)) (results_cell_row rfl _ _ (w.heap.size + 1) _ _ _ _ rfl h4'.out Try.underlying36 rfl info_got) rfl ?_
    exact ⟨rfl, Exc.below hq hx (by omega) hq.size⟩

end Go.Proofs.Ytmilljlkcbljpaa

/- Same of the reference; Table and its reference alike. -/
namespace Go.Proofs.Ytmilljlkcbljpaa
open Go.RowKit Go.Sort

theorem twos_new (w : World) (x y x' y' : Value) (t : TypeId) : ∃ w0, (w.alloc (.cells #[x, y] t)).alloc (.cells #[x', y'] t) = w0 ∧
    Below w.heap.size w w0 ∧ Two t w0 w.heap.size x y ∧ Two t w0 (w.heap.size + 1) x' y' := by
  refine ⟨_, rfl, ((Below.refl _ w).alloc (Nat.le_refl _) _).alloc (by simp) _, (Two.new w x y t).alloc _, ?_⟩
  have h := Two.new (w.alloc (.cells #[x, y] t)) x' y' t
  rw [World.size_alloc] at h
  exact h

set_option maxRecDepth 100000 in
set_option maxHeartbeats 4000000 in
theorem refSame_any {N M B : Nat} {v u : Value} {g : Nat → Nat → Int} {w : World} (hM : M ≤ 1000000) (hB : B ≤ w.heap.size) (hv : Cls w B v M g) (hu : Cls w B u M g) :
    Calls Try.prog 23 #[.agg #[.int .i64 N, v], .agg #[.int .i64 N, u]] w fun e w' => e = .returned (.bool true) ∧ Below w.heap.size w w' := by
  obtain ⟨w0, h0, hb0, t1, t2⟩ := twos_new w (.int .i64 N) v (.int .i64 N) u 31
  have T1 := Lib.hid t1
  have T2 := Lib.hid t2
  have HV := Lib.hid hv
  have HU := Lib.hid hu
  have g0 := t1.c0
  have g1 := t1.c1
  have g2 := t2.c0
  have g3 := t2.c1
  obtain ⟨a, cap, rfl⟩ := hv.shape
  obtain ⟨a', cap', rfl⟩ := hu.shape
  have en : ((N : Int) != (N : Int)) = false := by simp
  have em : ((M : Int) != (M : Int)) = false := by simp
  clear t1 t2 hv hu
  go_enter Try.func23, Try.ntmps23
  go_wp2
  clear h0 g0 g1 g2 g3
  go_loopw [5] (fun i wr => ∃ k : Nat, k ≤ M ∧ i = .int .i64 k ∧ Drawn w0 wr) (fun i _ => M - (intOf i).toNat)
  case atStart => exact ⟨0, by omega, rfl, .refl _⟩
  case round =>
    obtain ⟨k, hk, rfl, hd⟩ := hrel
    have hq := hb0.trans ((hd.below _).mono hb0.size)
    have t1 := T1.out.on (hd.below _)
    have t2 := T2.out.on (hd.below _)
    have g1 := t1.c1
    have g3 := t2.c1
    by_cases hlt : k < M
    · obtain ⟨lb, lo, lc, e1, e2, e3⟩ := (HV.out.below hq hB).at (by omega)
      cases e1
      obtain ⟨lb', lo', lc', e1', e2', e3'⟩ := (HU.out.below hq hB).at (by omega)
      cases e1'
      have c0 := e3 k hlt 0 (by omega)
      have c1 := e3 k hlt 1 (by omega)
      have c2 := e3 k hlt 2 (by omega)
      have d0 := e3' k hlt 0 (by omega)
      have d1 := e3' k hlt 1 (by omega)
      have d2 := e3' k hlt 2 (by omega)
      rw [Nat.add_zero] at c0 d0
      have heq := neq_col (g k) (g k)
      rw [eqB_t (fun _ _ => rfl)] at heq
      unfold col at heq
      have i1 : 0 ≤ (k : Int) ∧ (k : Int) < M := by omega
      have HD := Lib.hid hd
      clear t1 t2 e3 e3' hd hq
      go_wp2
      go_quiet (fail)
      go_wp2
      exact ⟨⟨k + 1, by omega, by go_num, HD.out.on _⟩, by simp [intOf]; omega⟩
    · obtain rfl : k = M := by omega
      clear t1 t2 hd
      go_wp2
      go_ret
      exact ⟨rfl, hq⟩

theorem cls_nil (w : World) (B : Nat) (g : Nat → Nat → Int) : Cls w B (.slice none 0 0) 0 g := .inl ⟨rfl, none, 0, rfl, fun _ => rfl⟩

/-- Table and its reference answer alike. -/
theorem tables_both (n : Nat) (S : Nat → Sp) (m : Int) : ∃ (N : Nat) (E : Int), N ≤ 17 ∧ ∀ {v : Value} {B : Nat} {w : World}, n ≤ 9223372036854775807 → B ≤ w.heap.size → Chn w B v n S →
    (Calls Try.prog 20 #[v, .int .i64 m] w fun e w' => ∃ x, e = .returned (.tuple #[.agg #[.int .i64 N, x], .int .i64 E]) ∧ Cls w' w'.heap.size x (N * N * N) (tabV S n N) ∧ Below w.heap.size w w') ∧
    Calls Try.prog 14 #[v, .int .i64 m] w fun e w' => ∃ x, e = .returned (.agg (gotA (fun _ => 0) N x 0 (fun _ => 0) E)) ∧ Cls w' w'.heap.size x (N * N * N) (tabV S n N) ∧ Below w.heap.size w w' := by
  by_cases he : chkV n S = 0
  · by_cases hm : 2 ≤ m ∧ m ≤ 17
    · obtain ⟨m', rfl⟩ := Int.eq_ofNat_of_zero_le (show 0 ≤ m by omega)
      refine ⟨m', 0, by omega, fun hn hB hc => ⟨(table_yes hn hB hc he (by omega) (by omega)).mono ?_, (refTable_yes hn hB hc he (by omega) (by omega)).mono ?_⟩⟩
      · rintro e w' ⟨x, rfl, hown, hb⟩
        exact ⟨x, rfl, Cls.of_own hown (Nat.le_refl _), hb⟩
      · rintro e w' ⟨x, rfl, hown, hb⟩
        exact ⟨x, rfl, Cls.of_own hown (Nat.le_refl _), hb⟩
    · refine ⟨0, 1, by omega, fun hn hB hc => ⟨(table_size hn hB hc he hm).mono ?_, (refTable_size hn hB hc he hm).mono ?_⟩⟩
      · rintro e w' ⟨rfl, hb⟩
        exact ⟨_, rfl, cls_nil _ _ _, hb⟩
      · rintro e w' ⟨rfl, hb⟩
        exact ⟨_, rfl, cls_nil _ _ _, hb⟩
  · refine ⟨0, chkV n S, by omega, fun hn hB hc => ⟨(table_chk hn hB hc he).mono ?_, (refTable_chk hn hB hc he).mono ?_⟩⟩
    · rintro e w' ⟨rfl, hb⟩
      exact ⟨_, rfl, cls_nil _ _ _, hb⟩
    · rintro e w' ⟨rfl, hb⟩
      exact ⟨_, rfl, cls_nil _ _ _, hb⟩

/-- Worst and its reference answer alike. -/
theorem worsts_both (n N m l : Nat) (S : Nat → Sp) (g L : Nat → Nat → Int) : ∃ (V E : Int), (4096 < l → E = if chkV n S = 0 then (if grB N m g then 2 else 1) else chkV n S) ∧ (l ≤ 4096 → E = if chkV n S = 0 then (if grB N m g then 0 else 1) else chkV n S) ∧
    ∀ {v vg vl : Value} {B : Nat} {w : World}, n ≤ 9223372036854775807 → N ≤ 1000000 → l ≤ 1000000 → B ≤ w.heap.size → Chn w B v n S → Cls w B vg m g → Cls w B vl l L →
    (Calls Try.prog 17 #[v, .agg #[.int .i64 N, vg], vl] w fun e w' => e = .returned (.tuple #[.int .i64 V, .int .i64 E]) ∧ Below w.heap.size w w') ∧
    Calls Try.prog 18 #[v, .agg #[.int .i64 N, vg], vl] w fun e w' => e = .returned (.agg (gotA (fun _ => 0) 0 (.slice none 0 0) V (fun _ => 0) E)) ∧ Below w.heap.size w w' := by
  by_cases he : chkV n S = 0
  · by_cases hG : GrV N m g
    · by_cases hl : l ≤ 4096
      · exact ⟨wstV S n N g L l, 0, fun h => by omega, fun _ => by rw [if_pos he, grB_t hG]; rfl, fun hn _ _ hB hc hg hL => ⟨Worst_yes hn hl hB hc he hG hg hL, refWorst_yes hn hl hB hc he hG hg hL⟩⟩
      · exact ⟨0, 2, fun _ => by rw [if_pos he, grB_t hG]; rfl, fun h => by omega, fun hn _ hl' hB hc hg hL => ⟨Worst_many hn (by omega) hl' hB hc he hG hg hL, refWorst_many hn (by omega) hl' hB hc he hG hg hL⟩⟩
    · exact ⟨0, 1, fun _ => by rw [if_pos he, grB_f hG]; rfl, fun _ => by rw [if_pos he, grB_f hG]; rfl, fun hn hN _ hB hc hg hL => ⟨Worst_no hn hN hB hc he hG hg hL, refWorst_no hn hN hB hc he hG hg hL⟩⟩
  · exact ⟨0, chkV n S, fun _ => by rw [if_neg he], fun _ => by rw [if_neg he], fun hn _ _ hB hc hg hL => ⟨Worst_chk hn hB hc he hg hL, refWorst_chk hn hB hc he hg hL⟩⟩

/-- Look and its reference answer alike. -/
theorem looks_both' (K n : Nat) (g : Nat → Nat → Int) : ∃ (lv : (Nat → Int) → Nat → Int) (E : Int), ∀ {v : Value} {B : Nat} {c : Nat → Int} {w : World}, K ≤ 1000000 → B ≤ w.heap.size → Cls w B v n g →
    (Calls Try.prog 22 #[.agg #[.int .i64 K, v], col c] w fun e w' => e = .returned (.tuple #[col (lv c), .int .i64 E]) ∧ Below w.heap.size w w') ∧
    Calls Try.prog 24 #[.agg #[.int .i64 K, v], col c] w fun e w' => e = .returned (.agg (gotA (lv c) 0 (.slice none 0 0) 0 (fun _ => 0) E)) ∧ Below w.heap.size w w' := by
  by_cases h : GrV K n g
  · exact ⟨fun c => lkV K g c, 0, fun _ hB hv => ⟨Look_yes hB hv h, refLook_yes hB hv h⟩⟩
  · exact ⟨fun _ _ => 0, 1, fun hN hB hv => ⟨Look_no hN hB hv h, refLook_no hN hB hv h⟩⟩

end Go.Proofs.Ytmilljlkcbljpaa

/- Laws for the last statements: boxes of what the reference returns, chains, rest. -/
namespace Go.Proofs.Ytmilljlkcbljpaa
open Go.RowKit Go.Sort

/-- A box of the reference's answer. -/
def Gob (w : World) (b : Nat) (A : Array Value) : Prop := w.heap[b]? = some (.cells A 36 (0, 0))
theorem Gob.on {w w' : World} {b : Nat} {A : Array Value} (h : Gob w b A) (hb : Below w.heap.size w w') : Gob w' b A := (hb.block b (Array.getElem?_eq_some_iff.1 h).1).trans h
theorem Gob.lt {w : World} {b : Nat} {A : Array Value} (h : Gob w b A) : b < w.heap.size := (Array.getElem?_eq_some_iff.1 h).1
theorem Gob.col {w : World} {b : Nat} {c : Nat → Int} {N : Int} {x : Value} {k : Int} {p : Nat → Int} {e : Int} (h : Gob w b (gotA c N x k p e)) : w.cell? ⟨b, 0, none⟩ = some (.int .i64 (c 0)) ∧ w.cell? ⟨b, 1, none⟩ = some (.int .i64 (c 1)) ∧ w.cell? ⟨b, 2, none⟩ = some (.int .i64 (c 2)) := by
  have h' : w.heap[b]? = _ := h
  simp [World.cell?, h', gotA]
theorem Gob.grid {w : World} {b : Nat} {c : Nat → Int} {N : Int} {x : Value} {k : Int} {p : Nat → Int} {e : Int} (h : Gob w b (gotA c N x k p e)) : w.cell? ⟨b, 3, none⟩ = some (.int .i64 N) ∧ w.cell? ⟨b, 4, none⟩ = some x := by
  have h' : w.heap[b]? = _ := h
  simp [World.cell?, h', gotA]
theorem Gob.num {w : World} {b : Nat} {c : Nat → Int} {N : Int} {x : Value} {k : Int} {p : Nat → Int} {e : Int} (h : Gob w b (gotA c N x k p e)) : w.cell? ⟨b, 5, none⟩ = some (.int .i64 k) := by
  have h' : w.heap[b]? = _ := h
  simp [World.cell?, h', gotA]
theorem Gob.pix {w : World} {b : Nat} {c : Nat → Int} {N : Int} {x : Value} {k : Int} {p : Nat → Int} {e : Int} (h : Gob w b (gotA c N x k p e)) : w.cell? ⟨b, 6, none⟩ = some (.int .u8 (p 0)) ∧ w.cell? ⟨b, 7, none⟩ = some (.int .u8 (p 1)) ∧ w.cell? ⟨b, 8, none⟩ = some (.int .u8 (p 2)) ∧ w.cell? ⟨b, 9, none⟩ = some (.int .u8 (p 3)) := by
  have h' : w.heap[b]? = _ := h
  simp [World.cell?, h', gotA]
theorem Gob.err {w : World} {b : Nat} {c : Nat → Int} {N : Int} {x : Value} {k : Int} {p : Nat → Int} {e : Int} (h : Gob w b (gotA c N x k p e)) : w.cell? ⟨b, 10, none⟩ = some (.int .i64 e) := by
  have h' : w.heap[b]? = _ := h
  simp [World.cell?, h', gotA]
theorem chn_on {w w' : World} {n : Nat} {v : Value} {S : Nat → Sp} (h : Chn w w.heap.size v n S) (hb : Below w.heap.size w w') : Chn w' w'.heap.size v n S := by
  have h := h.below hb (Nat.le_refl _)
  refine ⟨fun k hk => Crv.mono (h.1 k hk) hb.size, ?_⟩
  rcases h.2 with h | ⟨b, off, cap, h1, h2, h3⟩
  · exact .inl h
  · exact .inr ⟨b, off, cap, h1, ⟨Nat.lt_of_lt_of_le h2.1 hb.size, h2.2⟩, h3⟩
theorem eql_self (Y : Nat → Int) (w : World) : (binOp .eql 28 (.agg #[.int .i64 (Y 0), .int .i64 (Y 1), .int .i64 (Y 2)]) (.agg #[.int .i64 (Y 0), .int .i64 (Y 1), .int .i64 (Y 2)])).run Try.prog w = .ok (.bool true) w := by
  have := eql_col Y Y w
  rw [eqB_t fun _ _ => rfl] at this
  exact this
theorem neq_self (Y : Nat → Int) (w : World) : (binOp .neq 28 (.agg #[.int .i64 (Y 0), .int .i64 (Y 1), .int .i64 (Y 2)]) (.agg #[.int .i64 (Y 0), .int .i64 (Y 1), .int .i64 (Y 2)])).run Try.prog w = .ok (.bool false) w := by
  have := neq_col Y Y w
  rw [eqB_t fun _ _ => rfl] at this
  exact this

end Go.Proofs.Ytmilljlkcbljpaa
