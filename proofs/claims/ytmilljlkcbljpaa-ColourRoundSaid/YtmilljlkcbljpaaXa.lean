/- Convert, To and From. -/
import Derived.Test.YtmilljlkcbljpaaSn
namespace Go.Proofs.Ytmilljlkcbljpaa
open Go.RowKit Go.Sort

theorem col_new (w : World) (c : Nat → Int) (t : TypeId) : ∃ w0, (w.alloc (.cells #[.int .i64 (c 0), .int .i64 (c 1), .int .i64 (c 2)] t)).alloc (.cells #[.int .i64 0, .int .i64 0, .int .i64 0] t) = w0 ∧
    Below w.heap.size w w0 ∧ w0.heap.size = w.heap.size + 2 ∧ Tri t w0 w.heap.size c ∧ Tri t w0 (w.heap.size + 1) (fun _ => 0) := by
  refine ⟨_, rfl, ((Below.refl _ w).alloc (Nat.le_refl _) _).alloc (by simp) _, by simp, (Tri.new w c t).alloc _, ?_⟩
  have h := Tri.new (w.alloc (.cells #[.int .i64 (c 0), .int .i64 (c 1), .int .i64 (c 2)] t)) (fun _ => 0) t
  simp only [World.size_alloc] at h
  exact h

/-- Convert. -/
noncomputable def cvtV (n : Nat) (S : Nat → Sp) (c : Nat → Int) (i : Nat) : Int := if chkV n S = 0 then cnv S c (n - 1) i else 0
set_option maxRecDepth 100000 in
set_option maxHeartbeats 1000000 in
theorem Convert_any {n B : Nat} {v : Value} {S : Nat → Sp} {c : Nat → Int} {w : World} (hn : n ≤ 9223372036854775807) (hB : B ≤ w.heap.size) (hc : Chn w B v n S) :
    Calls Try.prog 21 #[v, col c] w fun e w' => e = .returned (.tuple #[col (cvtV n S c), .int .i64 (chkV n S)]) ∧ Below w.heap.size w w' := by
  obtain ⟨w0, h0, hb0, hz, t1, t2⟩ := col_new w c 28
  have kc := Lib.hid (check_any (w := w0) hn (by omega) (hc.below hb0 hB))
  have T1 := Lib.hid t1
  have T2 := Lib.hid t2
  have HC := Lib.hid hc
  have d0 := t1.c0
  have d1 := t1.c1
  have d2 := t1.c2
  clear t1 t2
  by_cases he : chkV n S = 0
  · have hR : col (cvtV n S c) = col (cnv S c (n - 1)) := col_congr fun i _ => if_pos he
    rw [hR]
    rw [he] at kc ⊢
    obtain ⟨k1, k2, k3⟩ := chkV_ok he
    have HK := Lib.hid k3
    clear hR hc he k3
    unfold col
    go_enter Try.func21, Try.ntmps21
    go_wp2_with fail
    refine kc.out.mono ?_
    rintro e w1 ⟨rfl, hb1⟩
    have t1 := T1.out.on hb1
    have T2' := Lib.hid (T2.out.on hb1)
    have hq := hb0.trans (hb1.mono hb0.size)
    have kv := Lib.hid (convert_any (c := c) (w := w1) (by omega) (by omega) (Nat.le_trans hB hq.size) (HC.out.below hq hB) HK.out)
    unfold col at kv
    clear h0 d0 d1 d2 hb1
    have d0 := t1.c0
    have d1 := t1.c1
    have d2 := t1.c2
    clear t1
    go_wp2_with fail
    refine kv.out.mono ?_
    rintro e w2 ⟨rfl, hb2⟩
    have t2 := T2'.out.on hb2
    have x0 := t2.c0
    have x1 := t2.c1
    have x2 := t2.c2
    have y0 := t2.free 0
    have y1 := t2.free 1
    have y2 := t2.free 2
    have hq2 := hq.trans (hb2.mono hq.size)
    clear t2 d0 d1 d2
    go_wp2
    refine bodyPost_ret (v := .tuple #[.agg #[.int .i64 (cnv S c (n - 1) 0), .int .i64 (cnv S c (n - 1) 1), .int .i64 (cnv S c (n - 1) 2)], .int .i64 0]) (by simp [results, Try.results21, go_sem, *]) rfl ?_
    exact ⟨rfl, set3_below hq2 (by omega) _ _ _⟩
  · have hR : col (cvtV n S c) = col (fun _ => 0) := col_congr fun i _ => if_neg he
    rw [hR]
    obtain ⟨E, hE⟩ : ∃ E, chkV n S = E := ⟨_, rfl⟩
    rw [hE] at kc he ⊢
    have e0 : (E != 0) = true := by simpa using he
    clear hR hc he hE
    unfold col
    go_enter Try.func21, Try.ntmps21
    go_wp2_with fail
    refine kc.out.mono ?_
    rintro e w1 ⟨rfl, hb1⟩
    have hq := hb0.trans (hb1.mono hb0.size)
    have t2 := T2.out.on hb1
    have x0 := t2.c0
    have x1 := t2.c1
    have x2 := t2.c2
    have y0 := t2.free 0
    have y1 := t2.free 1
    have y2 := t2.free 2
    clear t2 h0 hb1 d0 d1 d2
    go_wp2
    refine bodyPost_ret (v := .tuple #[.agg #[.int .i64 0, .int .i64 0, .int .i64 0], .int .i64 E]) (by simp [results, Try.results21, go_sem, *]) rfl ?_
    exact ⟨rfl, set3_below hq (by omega) _ _ _⟩

noncomputable def ToV (n : Nat → Nat) (f : Nat → Nat → Int) (t m c : Nat → Int) (i : Nat) : Int := bif spB n f t m then toV n f t c i else 0
set_option maxRecDepth 100000 in
set_option maxHeartbeats 2000000 in
theorem To_any {v : Nat → Value} {n : Nat → Nat} {f : Nat → Nat → Int} {t m c : Nat → Int} {B : Nat} {w : World} (hB : B ≤ w.heap.size) (hc : Crv w B v n f) :
    Calls Try.prog 30 #[spc v t m, col c] w fun e w' => e = .returned (col (ToV n f t m c)) ∧ Below w.heap.size w w' := by
  obtain ⟨w0, h0, hb0, hz, t1, t2, t3⟩ := to_new w v t m c 63 28
  have T1 := Lib.hid t1
  have T2 := Lib.hid t2
  have T3 := Lib.hid t3
  have HC := Lib.hid hc
  have hl : Hid ((loadVar 63 ⟨w.heap.size, 0, none⟩).run Try.prog w0 = .ok (.agg (spA v t m)) w0) := Lib.hid (Sp.load0 (s := ⟨v, n, f, t, m⟩) t1)
  have kv := Lib.hid (space_any (v := v) (t := t) (m := m) (Nat.le_trans hB hb0.size) (hc.below hb0 hB))
  unfold spc at kv
  clear t1 t2 t3 hc
  unfold col spc
  unfold spA at h0
  have HV0 := Lib.hid (show (#[v 0, v 1, v 2, .int .i64 (t 0), .int .i64 (t 1), .int .i64 (t 2), .int .i64 (t 3), .int .i64 (t 4), .int .i64 (t 5), .int .i64 (t 6), .int .i64 (t 7), .int .i64 (t 8), .int .i64 (m 0), .int .i64 (m 1), .int .i64 (m 2), .int .i64 (m 3), .int .i64 (m 4), .int .i64 (m 5), .int .i64 (m 6), .int .i64 (m 7), .int .i64 (m 8)] : Array Value) = spA v t m from rfl)
  rw [← HV0.out]
  rw [← HV0.out] at kv hl
  go_enter Try.func30, Try.ntmps30
  go_wp2_with (refine list_load rfl 63 (.tmp 2) rfl rfl hl.out ?_)
  refine kv.out.mono ?_
  rintro e w1 ⟨rfl, hb1⟩
  have t2 := T2.out.on hb1
  have T3' := Lib.hid (T3.out.on hb1)
  have T1' := Lib.hid (T1.out.on hb1)
  have hq := hb0.trans (hb1.mono hb0.size)
  have d0 := t2.c0
  have d1 := t2.c1
  have d2 := t2.c2
  have hl1 : Hid ((loadVar 63 ⟨w.heap.size, 0, none⟩).run Try.prog w1 = .ok (.agg (spA v t m)) w1) := Lib.hid (Sp.load0 (s := ⟨v, n, f, t, m⟩) T1'.out)
  clear h0 kv t2 hb1 hl
  cases hV : spB n f t m with
  | true =>
    have ks := Lib.hid (to_any (c := c) (w := w1) (v := v) (m := m) (Crv.mono (HC.out.below hq hB) (Nat.le_trans hB hq.size)) (of_spB hV).2.1)
    have hR := Lib.hid (show col (ToV n f t m c) = col (toV n f t c) from col_congr fun i _ => by unfold ToV; rw [hV]; rfl)
    unfold col spc at ks
    unfold col at hR
    clear hV
    go_wp2_with (refine list_load rfl 63 (.tmp 2) rfl rfl hl1.out ?_)
    refine ks.out.mono ?_
    rintro e w2 ⟨rfl, hb2⟩
    have t3 := T3'.out.on hb2
    have x0 := t3.c0
    have x1 := t3.c1
    have x2 := t3.c2
    have y0 := t3.free 0
    have y1 := t3.free 1
    have y2 := t3.free 2
    have hq2 := hq.trans (hb2.mono hq.size)
    clear t3 d0 d1 d2
    go_wp2
    refine bodyPost_ret (v := .agg #[.int .i64 (toV n f t c 0), .int .i64 (toV n f t c 1), .int .i64 (toV n f t c 2)]) (by simp [results, Try.results30, go_sem, *]) rfl ?_
    exact ⟨by rw [hR.out], set3_below hq2 (by omega) _ _ _⟩
  | false =>
    have hR := Lib.hid (show col (ToV n f t m c) = col (fun _ => 0) from col_congr fun i _ => by unfold ToV; rw [hV]; rfl)
    unfold col at hR
    have t3 := T3'.out
    have x0 := t3.c0
    have x1 := t3.c1
    have x2 := t3.c2
    have y0 := t3.free 0
    have y1 := t3.free 1
    have y2 := t3.free 2
    clear t3 d0 d1 d2 hV
    go_wp2
    refine bodyPost_ret (v := .agg #[.int .i64 0, .int .i64 0, .int .i64 0]) (by simp [results, Try.results30, go_sem, *]) rfl ?_
    exact ⟨by rw [hR.out], set3_below hq (by omega) _ _ _⟩

noncomputable def FromV (n : Nat → Nat) (f : Nat → Nat → Int) (t m c : Nat → Int) (i : Nat) : Int := bif spB n f t m then fromV n f m c i else 0
set_option maxRecDepth 100000 in
set_option maxHeartbeats 2000000 in
theorem From_any {v : Nat → Value} {n : Nat → Nat} {f : Nat → Nat → Int} {t m c : Nat → Int} {B : Nat} {w : World} (hB : B ≤ w.heap.size) (hc : Crv w B v n f) :
    Calls Try.prog 32 #[spc v t m, col c] w fun e w' => e = .returned (col (FromV n f t m c)) ∧ Below w.heap.size w w' := by
  obtain ⟨w0, h0, hb0, hz, t1, t2, t3⟩ := to_new w v t m c 63 28
  have T1 := Lib.hid t1
  have T2 := Lib.hid t2
  have T3 := Lib.hid t3
  have HC := Lib.hid hc
  have hl : Hid ((loadVar 63 ⟨w.heap.size, 0, none⟩).run Try.prog w0 = .ok (.agg (spA v t m)) w0) := Lib.hid (Sp.load0 (s := ⟨v, n, f, t, m⟩) t1)
  have kv := Lib.hid (space_any (v := v) (t := t) (m := m) (Nat.le_trans hB hb0.size) (hc.below hb0 hB))
  unfold spc at kv
  clear t1 t2 t3 hc
  unfold col spc
  unfold spA at h0
  have HV0 := Lib.hid (show (#[v 0, v 1, v 2, .int .i64 (t 0), .int .i64 (t 1), .int .i64 (t 2), .int .i64 (t 3), .int .i64 (t 4), .int .i64 (t 5), .int .i64 (t 6), .int .i64 (t 7), .int .i64 (t 8), .int .i64 (m 0), .int .i64 (m 1), .int .i64 (m 2), .int .i64 (m 3), .int .i64 (m 4), .int .i64 (m 5), .int .i64 (m 6), .int .i64 (m 7), .int .i64 (m 8)] : Array Value) = spA v t m from rfl)
  rw [← HV0.out]
  rw [← HV0.out] at kv hl
  go_enter Try.func32, Try.ntmps32
  go_wp2_with (refine list_load rfl 63 (.tmp 2) rfl rfl hl.out ?_)
  refine kv.out.mono ?_
  rintro e w1 ⟨rfl, hb1⟩
  have t2 := T2.out.on hb1
  have T3' := Lib.hid (T3.out.on hb1)
  have T1' := Lib.hid (T1.out.on hb1)
  have hq := hb0.trans (hb1.mono hb0.size)
  have d0 := t2.c0
  have d1 := t2.c1
  have d2 := t2.c2
  have hl1 : Hid ((loadVar 63 ⟨w.heap.size, 0, none⟩).run Try.prog w1 = .ok (.agg (spA v t m)) w1) := Lib.hid (Sp.load0 (s := ⟨v, n, f, t, m⟩) T1'.out)
  clear h0 kv t2 hb1 hl
  cases hV : spB n f t m with
  | true =>
    have ks := Lib.hid (from_any (c := c) (w := w1) (v := v) (t := t) (Crv.mono (HC.out.below hq hB) (Nat.le_trans hB hq.size)) (of_spB hV).2.2.1)
    have hR := Lib.hid (show col (FromV n f t m c) = col (fromV n f m c) from col_congr fun i _ => by unfold FromV; rw [hV]; rfl)
    unfold col spc at ks
    unfold col at hR
    clear hV
    go_wp2_with (refine list_load rfl 63 (.tmp 2) rfl rfl hl1.out ?_)
    refine ks.out.mono ?_
    rintro e w2 ⟨rfl, hb2⟩
    have t3 := T3'.out.on hb2
    have x0 := t3.c0
    have x1 := t3.c1
    have x2 := t3.c2
    have y0 := t3.free 0
    have y1 := t3.free 1
    have y2 := t3.free 2
    have hq2 := hq.trans (hb2.mono hq.size)
    clear t3 d0 d1 d2
    go_wp2
    refine bodyPost_ret (v := .agg #[.int .i64 (fromV n f m c 0), .int .i64 (fromV n f m c 1), .int .i64 (fromV n f m c 2)]) (by simp [results, Try.results32, go_sem, *]) rfl ?_
    exact ⟨by rw [hR.out], set3_below hq2 (by omega) _ _ _⟩
  | false =>
    have hR := Lib.hid (show col (FromV n f t m c) = col (fun _ => 0) from col_congr fun i _ => by unfold FromV; rw [hV]; rfl)
    unfold col at hR
    have t3 := T3'.out
    have x0 := t3.c0
    have x1 := t3.c1
    have x2 := t3.c2
    have y0 := t3.free 0
    have y1 := t3.free 1
    have y2 := t3.free 2
    clear t3 d0 d1 d2 hV
    go_wp2
    refine bodyPost_ret (v := .agg #[.int .i64 0, .int .i64 0, .int .i64 0]) (by simp [results, Try.results32, go_sem, *]) rfl ?_
    exact ⟨by rw [hR.out], set3_below hq (by omega) _ _ _⟩

end Go.Proofs.Ytmilljlkcbljpaa
