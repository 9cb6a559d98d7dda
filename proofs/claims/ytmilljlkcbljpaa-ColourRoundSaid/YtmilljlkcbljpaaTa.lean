/- Table. -/
import Derived.Test.YtmilljlkcbljpaaSa
namespace Go.Proofs.Ytmilljlkcbljpaa
open Go.RowKit Go.Sort

/-- The box of a grid that is returned. -/
theorem grid_new (w : World) (t : TypeId) : ∃ w0, w.alloc (.cells #[.int .i64 0, .slice none 0 0] t) = w0 ∧ Below w.heap.size w w0 ∧ w0.heap.size = w.heap.size + 1 ∧ Two t w0 w.heap.size (.int .i64 0) (.slice none 0 0) :=
  ⟨_, rfl, (Below.refl _ w).alloc (Nat.le_refl _) _, by simp, Two.new w _ _ t⟩
theorem set2_below {B b : Nat} {w w0 : World} (h : Below B w w0) (hb : B ≤ b) (x0 x1 : Value) : Below B w ((w0.setCell ⟨b, 0, none⟩ x0).setCell ⟨b, 1, none⟩ x1) :=
  (h.setCell (p := ⟨b, 0, none⟩) hb _).setCell (p := ⟨b, 1, none⟩) hb _

set_option maxRecDepth 100000 in
set_option maxHeartbeats 1000000 in
theorem table_chk {n B : Nat} {v : Value} {S : Nat → Sp} {m : Int} {w : World} (hn : n ≤ 9223372036854775807) (hB : B ≤ w.heap.size) (hc : Chn w B v n S) (he : chkV n S ≠ 0) :
    Calls Try.prog 20 #[v, .int .i64 m] w fun e w' => e = .returned (.tuple #[.agg #[.int .i64 0, .slice none 0 0], .int .i64 (chkV n S)]) ∧ Below w.heap.size w w' := by
  obtain ⟨w0, h0, hb0, hz, t1⟩ := grid_new w 31
  have T1 := Lib.hid t1
  have kc := Lib.hid (check_any (w := w0) hn (by omega) (hc.below hb0 hB))
  obtain ⟨E, hE⟩ : ∃ E, chkV n S = E := ⟨_, rfl⟩
  rw [hE] at kc he ⊢
  have d0 : (E != 0) = true := by simpa using he
  clear t1 hc he hE
  go_enter Try.func20, Try.ntmps20
  go_wp2_with fail
  refine kc.out.mono ?_
  rintro e w1 ⟨rfl, hb1⟩
  have t1 := T1.out.on hb1
  have x0 := t1.c0
  have x1 := t1.c1
  have y0 := t1.free 0
  have y1 := t1.free 1
  have hq := hb0.trans (hb1.mono hb0.size)
  clear t1 h0
  go_wp2
  refine bodyPost_ret (v := .tuple #[.agg #[.int .i64 0, .slice none 0 0], .int .i64 E]) (by simp [results, Try.results20, go_sem, *]) rfl ?_
  exact ⟨rfl, set2_below hq (by simp) _ _⟩

set_option maxRecDepth 100000 in
set_option maxHeartbeats 1000000 in
theorem table_size {n B : Nat} {v : Value} {S : Nat → Sp} {m : Int} {w : World} (hn : n ≤ 9223372036854775807) (hB : B ≤ w.heap.size) (hc : Chn w B v n S) (he : chkV n S = 0) (hm : ¬ (2 ≤ m ∧ m ≤ 17)) :
    Calls Try.prog 20 #[v, .int .i64 m] w fun e w' => e = .returned (.tuple #[.agg #[.int .i64 0, .slice none 0 0], .int .i64 1]) ∧ Below w.heap.size w w' := by
  obtain ⟨w0, h0, hb0, hz, t1⟩ := grid_new w 31
  have T1 := Lib.hid t1
  have kc := Lib.hid (check_any (w := w0) hn (by omega) (hc.below hb0 hB))
  rw [he] at kc
  clear t1 hc he
  by_cases h2 : m < 2
  · have d1 : decide (m < 2) = true := decide_eq_true h2
    go_enter Try.func20, Try.ntmps20
    go_wp2_with fail
    refine kc.out.mono ?_
    rintro e w1 ⟨rfl, hb1⟩
    have t1 := T1.out.on hb1
    have x0 := t1.c0
    have x1 := t1.c1
    have y0 := t1.free 0
    have y1 := t1.free 1
    have hq := hb0.trans (hb1.mono hb0.size)
    clear t1 h0
    go_wp2
    refine bodyPost_ret (v := .tuple #[.agg #[.int .i64 0, .slice none 0 0], .int .i64 1]) (by simp [results, Try.results20, go_sem, *]) rfl ?_
    exact ⟨rfl, set2_below hq (by simp) _ _⟩
  · have d1 : decide (m < 2) = false := decide_eq_false h2
    have d2 : decide (17 < m) = true := decide_eq_true (by omega)
    clear hm
    go_enter Try.func20, Try.ntmps20
    go_wp2_with fail
    refine kc.out.mono ?_
    rintro e w1 ⟨rfl, hb1⟩
    have t1 := T1.out.on hb1
    have x0 := t1.c0
    have x1 := t1.c1
    have y0 := t1.free 0
    have y1 := t1.free 1
    have hq := hb0.trans (hb1.mono hb0.size)
    clear t1 h0
    go_wp2
    refine bodyPost_ret (v := .tuple #[.agg #[.int .i64 0, .slice none 0 0], .int .i64 1]) (by simp [results, Try.results20, go_sem, *]) rfl ?_
    exact ⟨rfl, set2_below hq (by simp) _ _⟩

theorem own_below' {w w' : World} {base size n B : Nat} {e : TypeId} {v : Value} {xs : List Value} (h : w.ownsRow base e size v n xs) (hb : Below B w w') (hB : w.heap.size ≤ B) : w'.ownsRow base e size v n xs := own_below h (below_le hb hB)

set_option maxRecDepth 100000 in
set_option maxHeartbeats 1000000 in
theorem table_yes {n m B : Nat} {v : Value} {S : Nat → Sp} {w : World} (hn : n ≤ 9223372036854775807) (hB : B ≤ w.heap.size) (hc : Chn w B v n S) (he : chkV n S = 0) (hm : 2 ≤ m) (hm' : m ≤ 17) :
    Calls Try.prog 20 #[v, .int .i64 m] w fun e w' => ∃ x, e = .returned (.tuple #[.agg #[.int .i64 m, x], .int .i64 0]) ∧ w'.ownsRow w.heap.size 28 3 x (m * m * m) (vals3 (tabV S n m) (m * m * m)) ∧ Below w.heap.size w w' := by
  obtain ⟨w0, h0, hb0, hz, t1⟩ := grid_new w 31
  have T1 := Lib.hid t1
  have kc := Lib.hid (check_any (w := w0) hn (by omega) (hc.below hb0 hB))
  obtain ⟨c1, c2, c3⟩ := chkV_ok he
  have HC := Lib.hid hc
  have HV := Lib.hid c3
  have Z := Lib.hid hz
  rw [he] at kc
  have d1 : decide ((m : Int) < 2) = false := decide_eq_false (by omega)
  have d2 : decide ((17 : Int) < m) = false := decide_eq_false (by omega)
  have q8 := (cube_bd hm hm').1
  clear t1 hc he c3 hz
  go_enter Try.func20, Try.ntmps20
  go_wp2_with fail
  refine kc.out.mono ?_
  rintro e w1 ⟨rfl, hb1⟩
  have hq := hb0.trans (hb1.mono hb0.size)
  have T2 := Lib.hid (T1.out.on hb1)
  clear h0
  go_wp2_with fail
  refine (sample_any (n := n) (S := S) (B := B) (by omega) (by omega) hm hm' (Nat.le_trans hB hq.size) (HC.out.below hq hB) HV.out).mono ?_
  rintro e w2 ⟨x, rfl, hown, hb2⟩
  obtain ⟨gb, cap, rfl⟩ := own_pos hown (by omega)
  have t1 := T2.out.on hb2
  have x0 := t1.c0
  have x1 := t1.c1
  have y0 := t1.free 0
  have y1 := t1.free 1
  have hq2 := hq.trans (hb2.mono hq.size)
  have l1 : w.heap.size < w1.heap.size := by have := hb1.size; have := Z.out; omega
  have HO := Lib.hid hown
  clear t1 hown
  go_wp2
  refine bodyPost_ret (v := .tuple #[.agg #[.int .i64 m, .slice (some ⟨gb, 0, none⟩) (m * m * m) cap], .int .i64 0]) (by simp [results, Try.results20, go_sem, *]) rfl ?_
  exact ⟨_, rfl, own_le (own_keep (own_keep HO.out l1) l1) (by omega), set2_below hq2 (by simp) _ _⟩

end Go.Proofs.Ytmilljlkcbljpaa
