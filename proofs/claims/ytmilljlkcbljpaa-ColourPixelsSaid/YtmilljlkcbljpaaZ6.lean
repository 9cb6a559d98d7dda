/- Texts of this proof, one behind another: Xa Rc Rd2 Rs Rt2 Ru Ca Co. -/
import Derived.Test.YtmilljlkcbljpaaZ5
import Derived.Deep.MidRow
import Derived.Maps.AppendAt
/- Convert, To and From. -/
namespace Go.Proofs.Ytmilljlkcbljpaa
open Go.RowKit Go.Sort

theorem col_new (w : World) (c : Nat → Int) (t : TypeId) : ∃ w0, (w.alloc (.cells #[.int .i64 (c 0), .int .i64 (c 1), .int .i64 (c 2)] t)).alloc (.cells #[.int .i64 0, .int .i64 0, .int .i64 0] t) = w0 ∧
    Below w.heap.size w w0 ∧ w0.heap.size = w.heap.size + 2 ∧ Tri t w0 w.heap.size c ∧ Tri t w0 (w.heap.size + 1) (fun _ => 0) := by
  refine ⟨_, rfl, ((Below.refl _ w).alloc (Nat.le_refl _) _).alloc (by simp) _, by simp, (Tri.new w c t).alloc _, ?_⟩
  have h := Tri.new (w.alloc (.cells #[.int .i64 (c 0), .int .i64 (c 1), .int .i64 (c 2)] t)) (fun _ => 0) t
  simp only [World.size_alloc] at h
  exact h

/-- Convert. -/
noncomputable def cvtV (n : Nat) (S : Nat → Sp) (c : Nat → Int) (i : Nat) : Int := if chkV n S = 0 then cnv S c (n - 1) i else 0
set_option maxRecDepth 100000 in
set_option maxHeartbeats 1000000 in
theorem Convert_any {n B : Nat} {v : Value} {S : Nat → Sp} {c : Nat → Int} {w : World} (hn : n ≤ 9223372036854775807) (hB : B ≤ w.heap.size) (hc : Chn w B v n S) :
    Calls Try.prog 21 #[v, col c] w fun e w' => e = .returned (.tuple #[col (cvtV n S c), .int .i64 (chkV n S)]) ∧ Below w.heap.size w w' := by
  obtain ⟨w0, h0, hb0, hz, t1, t2⟩ := col_new w c 28
  have kc := Lib.hid (check_any (w := w0) hn (by omega) (hc.below hb0 hB))
  have T1 := Lib.hid t1
  have T2 := Lib.hid t2
  have HC := Lib.hid hc
  have d0 := t1.c0
  have d1 := t1.c1
  have d2 := t1.c2
  clear t1 t2
  by_cases he : chkV n S = 0
  · have hR : col (cvtV n S c) = col (cnv S c (n - 1)) := col_congr fun i _ => if_pos he
    rw [hR]
    rw [he] at kc ⊢
    obtain ⟨k1, k2, k3⟩ := chkV_ok he
    have HK := Lib.hid k3
    clear hR hc he k3
    unfold col
    go_enter Try.func21, Try.ntmps21
    go_wp2_with fail
    refine kc.out.mono ?_
    rintro e w1 ⟨rfl, hb1⟩
    have t1 := T1.out.on hb1
    have T2' := Lib.hid (T2.out.on hb1)
    have hq := hb0.trans (hb1.mono hb0.size)
    have kv := Lib.hid (convert_any (c := c) (w := w1) (by omega) (by omega) (Nat.le_trans hB hq.size) (HC.out.below hq hB) HK.out)
    unfold col at kv
    clear h0 d0 d1 d2 hb1
    have d0 := t1.c0
    have d1 := t1.c1
    have d2 := t1.c2
    clear t1
    go_wp2_with fail
    refine kv.out.mono ?_
    rintro e w2 ⟨rfl, hb2⟩
    have t2 := T2'.out.on hb2
    have x0 := t2.c0
    have x1 := t2.c1
    have x2 := t2.c2
    have y0 := t2.free 0
    have y1 := t2.free 1
    have y2 := t2.free 2
    have hq2 := hq.trans (hb2.mono hq.size)
    clear t2 d0 d1 d2
    go_wp2
    refine bodyPost_ret (v := .tuple #[.agg #[.int .i64 (cnv S c (n - 1) 0), .int .i64 (cnv S c (n - 1) 1), .int .i64 (cnv S c (n - 1) 2)], .int .i64 0]) (by simp [results, Try.results21, go_sem, *]) rfl ?_
    exact ⟨rfl, set3_below hq2 (by omega) _ _ _⟩
  · have hR : col (cvtV n S c) = col (fun _ => 0) := col_congr fun i _ => if_neg he
    rw [hR]
    obtain ⟨E, hE⟩ : ∃ E, chkV n S = E := ⟨_, rfl⟩
    rw [hE] at kc he ⊢
    have e0 : (E != 0) = true := by simpa using he
    clear hR hc he hE
    unfold col
    go_enter Try.func21, Try.ntmps21
    go_wp2_with fail
    refine kc.out.mono ?_
    rintro e w1 ⟨rfl, hb1⟩
    have hq := hb0.trans (hb1.mono hb0.size)
    have t2 := T2.out.on hb1
    have x0 := t2.c0
    have x1 := t2.c1
    have x2 := t2.c2
    have y0 := t2.free 0
    have y1 := t2.free 1
    have y2 := t2.free 2
    clear t2 h0 hb1 d0 d1 d2
    go_wp2
    refine bodyPost_ret (v := .tuple #[.agg #[.int .i64 0, .int .i64 0, .int .i64 0], .int .i64 E]) (by simp [results, Try.results21, go_sem, *]) rfl ?_
    exact ⟨rfl, set3_below hq (by omega) _ _ _⟩

noncomputable def ToV (n : Nat → Nat) (f : Nat → Nat → Int) (t m c : Nat → Int) (i : Nat) : Int := bif spB n f t m then toV n f t c i else 0
set_option maxRecDepth 100000 in
set_option maxHeartbeats 2000000 in
theorem To_any {v : Nat → Value} {n : Nat → Nat} {f : Nat → Nat → Int} {t m c : Nat → Int} {B : Nat} {w : World} (hB : B ≤ w.heap.size) (hc : Crv w B v n f) :
    Calls Try.prog 30 #[spc v t m, col c] w fun e w' => e = .returned (col (ToV n f t m c)) ∧ Below w.heap.size w w' := by
  obtain ⟨w0, h0, hb0, hz, t1, t2, t3⟩ := to_new w v t m c 63 28
  have T1 := Lib.hid t1
  have T2 := Lib.hid t2
  have T3 := Lib.hid t3
  have HC := Lib.hid hc
  have hl : Hid ((loadVar 63 ⟨w.heap.size, 0, none⟩).run Try.prog w0 = .ok (.agg (spA v t m)) w0) := Lib.hid (Sp.load0 (s := ⟨v, n, f, t, m⟩) t1)
  have kv := Lib.hid (space_any (v := v) (t := t) (m := m) (Nat.le_trans hB hb0.size) (hc.below hb0 hB))
  unfold spc at kv
  clear t1 t2 t3 hc
  unfold col spc
  unfold spA at h0
  have HV0 := Lib.hid (show (#[v 0, v 1, v 2, .int .i64 (t 0), .int .i64 (t 1), .int .i64 (t 2), .int .i64 (t 3), .int .i64 (t 4), .int .i64 (t 5), .int .i64 (t 6), .int .i64 (t 7), .int .i64 (t 8), .int .i64 (m 0), .int .i64 (m 1), .int .i64 (m 2), .int .i64 (m 3), .int .i64 (m 4), .int .i64 (m 5), .int .i64 (m 6), .int .i64 (m 7), .int .i64 (m 8)] : Array Value) = spA v t m from rfl)
  rw [← HV0.out]
  rw [← HV0.out] at kv hl
  go_enter Try.func30, Try.ntmps30
  go_wp2_with (refine list_load rfl 63 (.tmp 2) rfl rfl hl.out ?_)
  refine kv.out.mono ?_
  rintro e w1 ⟨rfl, hb1⟩
  have t2 := T2.out.on hb1
  have T3' := Lib.hid (T3.out.on hb1)
  have T1' := Lib.hid (T1.out.on hb1)
  have hq := hb0.trans (hb1.mono hb0.size)
  have d0 := t2.c0
  have d1 := t2.c1
  have d2 := t2.c2
  have hl1 : Hid ((loadVar 63 ⟨w.heap.size, 0, none⟩).run Try.prog w1 = .ok (.agg (spA v t m)) w1) := Lib.hid (Sp.load0 (s := ⟨v, n, f, t, m⟩) T1'.out)
  clear h0 kv t2 hb1 hl
  cases hV : spB n f t m with
  | true =>
    have ks := Lib.hid (to_any (c := c) (w := w1) (v := v) (m := m) (Crv.mono (HC.out.below hq hB) (Nat.le_trans hB hq.size)) (of_spB hV).2.1)
    have hR := Lib.hid (show col (ToV n f t m c) = col (toV n f t c) from col_congr fun i _ => by unfold ToV; rw [hV]; rfl)
    unfold col spc at ks
    unfold col at hR
    clear hV
    go_wp2_with (refine list_load rfl 63 (.tmp 2) rfl rfl hl1.out ?_)
    refine ks.out.mono ?_
    rintro e w2 ⟨rfl, hb2⟩
    have t3 := T3'.out.on hb2
    have x0 := t3.c0
    have x1 := t3.c1
    have x2 := t3.c2
    have y0 := t3.free 0
    have y1 := t3.free 1
    have y2 := t3.free 2
    have hq2 := hq.trans (hb2.mono hq.size)
    clear t3 d0 d1 d2
    go_wp2
    refine bodyPost_ret (v := .agg #[.int .i64 (toV n f t c 0), .int .i64 (toV n f t c 1), .int .i64 (toV n f t c 2)]) (by simp [results, Try.results30, go_sem, *]) rfl ?_
    exact ⟨by rw [hR.out], set3_below hq2 (by omega) _ _ _⟩
  | false =>
    have hR := Lib.hid (show col (ToV n f t m c) = col (fun _ => 0) from col_congr fun i _ => by unfold ToV; rw [hV]; rfl)
    unfold col at hR
    have t3 := T3'.out
    have x0 := t3.c0
    have x1 := t3.c1
    have x2 := t3.c2
    have y0 := t3.free 0
    have y1 := t3.free 1
    have y2 := t3.free 2
    clear t3 d0 d1 d2 hV
    go_wp2
    refine bodyPost_ret (v := .agg #[.int .i64 0, .int .i64 0, .int .i64 0]) (by simp [results, Try.results30, go_sem, *]) rfl ?_
    exact ⟨by rw [hR.out], set3_below hq (by omega) _ _ _⟩

noncomputable def FromV (n : Nat → Nat) (f : Nat → Nat → Int) (t m c : Nat → Int) (i : Nat) : Int := bif spB n f t m then fromV n f m c i else 0
set_option maxRecDepth 100000 in
set_option maxHeartbeats 2000000 in
theorem From_any {v : Nat → Value} {n : Nat → Nat} {f : Nat → Nat → Int} {t m c : Nat → Int} {B : Nat} {w : World} (hB : B ≤ w.heap.size) (hc : Crv w B v n f) :
    Calls Try.prog 32 #[spc v t m, col c] w fun e w' => e = .returned (col (FromV n f t m c)) ∧ Below w.heap.size w w' := by
  obtain ⟨w0, h0, hb0, hz, t1, t2, t3⟩ := to_new w v t m c 63 28
  have T1 := Lib.hid t1
  have T2 := Lib.hid t2
  have T3 := Lib.hid t3
  have HC := Lib.hid hc
  have hl : Hid ((loadVar 63 ⟨w.heap.size, 0, none⟩).run Try.prog w0 = .ok (.agg (spA v t m)) w0) := Lib.hid (Sp.load0 (s := ⟨v, n, f, t, m⟩) t1)
  have kv := Lib.hid (space_any (v := v) (t := t) (m := m) (Nat.le_trans hB hb0.size) (hc.below hb0 hB))
  unfold spc at kv
  clear t1 t2 t3 hc
  unfold col spc
  unfold spA at h0
  have HV0 := Lib.hid (show (#[v 0, v 1, v 2, .int .i64 (t 0), .int .i64 (t 1), .int .i64 (t 2), .int .i64 (t 3), .int .i64 (t 4), .int .i64 (t 5), .int .i64 (t 6), .int .i64 (t 7), .int .i64 (t 8), .int .i64 (m 0), .int .i64 (m 1), .int .i64 (m 2), .int .i64 (m 3), .int .i64 (m 4), .int .i64 (m 5), .int .i64 (m 6), .int .i64 (m 7), .int .i64 (m 8)] : Array Value) = spA v t m from rfl)
  rw [← HV0.out]
  rw [← HV0.out] at kv hl
  go_enter Try.func32, Try.ntmps32
  go_wp2_with (refine list_load rfl 63 (.tmp 2) rfl rfl hl.out ?_)
  refine kv.out.mono ?_
  rintro e w1 ⟨rfl, hb1⟩
  have t2 := T2.out.on hb1
  have T3' := Lib.hid (T3.out.on hb1)
  have T1' := Lib.hid (T1.out.on hb1)
  have hq := hb0.trans (hb1.mono hb0.size)
  have d0 := t2.c0
  have d1 := t2.c1
  have d2 := t2.c2
  have hl1 : Hid ((loadVar 63 ⟨w.heap.size, 0, none⟩).run Try.prog w1 = .ok (.agg (spA v t m)) w1) := Lib.hid (Sp.load0 (s := ⟨v, n, f, t, m⟩) T1'.out)
  clear h0 kv t2 hb1 hl
  cases hV : spB n f t m with
  | true =>
    have ks := Lib.hid (from_any (c := c) (w := w1) (v := v) (t := t) (Crv.mono (HC.out.below hq hB) (Nat.le_trans hB hq.size)) (of_spB hV).2.2.1)
    have hR := Lib.hid (show col (FromV n f t m c) = col (fromV n f m c) from col_congr fun i _ => by unfold FromV; rw [hV]; rfl)
    unfold col spc at ks
    unfold col at hR
    clear hV
    go_wp2_with (refine list_load rfl 63 (.tmp 2) rfl rfl hl1.out ?_)
    refine ks.out.mono ?_
    rintro e w2 ⟨rfl, hb2⟩
    have t3 := T3'.out.on hb2
    have x0 := t3.c0
    have x1 := t3.c1
    have x2 := t3.c2
    have y0 := t3.free 0
    have y1 := t3.free 1
    have y2 := t3.free 2
    have hq2 := hq.trans (hb2.mono hq.size)
    clear t3 d0 d1 d2
    go_wp2
    refine bodyPost_ret (v := .agg #[.int .i64 (fromV n f m c 0), .int .i64 (fromV n f m c 1), .int .i64 (fromV n f m c 2)]) (by simp [results, Try.results32, go_sem, *]) rfl ?_
    exact ⟨by rw [hR.out], set3_below hq2 (by omega) _ _ _⟩
  | false =>
    have hR := Lib.hid (show col (FromV n f t m c) = col (fun _ => 0) from col_congr fun i _ => by unfold FromV; rw [hV]; rfl)
    unfold col at hR
    have t3 := T3'.out
    have x0 := t3.c0
    have x1 := t3.c1
    have x2 := t3.c2
    have y0 := t3.free 0
    have y1 := t3.free 1
    have y2 := t3.free 2
    clear t3 d0 d1 d2 hV
    go_wp2
    refine bodyPost_ret (v := .agg #[.int .i64 0, .int .i64 0, .int .i64 0]) (by simp [results, Try.results32, go_sem, *]) rfl ?_
    exact ⟨by rw [hR.out], set3_below hq (by omega) _ _ _⟩

end Go.Proofs.Ytmilljlkcbljpaa

/- Curve of the reference: one of four. -/
namespace Go.Proofs.Ytmilljlkcbljpaa
open Go.RowKit Go.Sort

def cvL (r : Nat) : List Int := if r = 1 then [0, 4096, 16384, 36864, 65535] else if r = 2 then [0, 40000, 65535] else if r = 3 then [100, 100, 30000, 30000, 65000] else [0, 65535]
def cvN (r : Nat) : Nat := (cvL r).length
def cvF (r i : Nat) : Int := (cvL r).getD i 0

theorem sl_of_list {w : World} {l : List Int} {t : TypeId} : Sl (w.alloc (.cells (l.map (Value.int .i64)).toArray t)) (w.heap.size + 1) (.slice (some ⟨w.heap.size, 0, none⟩) l.length l.length) l.length (fun i => l.getD i 0) := by
  refine .inr ⟨w.heap.size, 0, l.length, rfl, ⟨by omega, Nat.le_refl _⟩, fun k hk => ?_⟩
  rw [World.cell?_alloc_at _ _ _ _ rfl]
  simp [hk]

/-- A slice in a block above another. -/
def SlA (lo : Nat) (w : World) (v : Value) (n : Nat) (f : Nat → Int) : Prop := ∃ b cap : Nat, lo < b ∧ b < w.heap.size ∧ v = .slice (some ⟨b, 0, none⟩) n cap ∧ n ≤ cap ∧ Cells w b 0 n f
theorem SlA.sl {lo n : Nat} {w : World} {v : Value} {f : Nat → Int} (h : SlA lo w v n f) : Sl w w.heap.size v n f := by
  obtain ⟨b, cap, _, h1, h2, h3, h4⟩ := h
  exact .inr ⟨b, 0, cap, h2, ⟨h1, h3⟩, h4⟩
theorem SlA.exc {lo n b : Nat} {w w' : World} {v : Value} {f : Nat → Int} (h : SlA lo w v n f) (hx : Exc b w w') (hb : b ≤ lo) : SlA lo w' v n f := by
  obtain ⟨c, cap, h0, h1, h2, h3, h4⟩ := h
  refine ⟨c, cap, h0, Nat.lt_of_lt_of_le h1 hx.2.1, h2, h3, fun k hk => ?_⟩
  rw [← h4 k hk]
  unfold World.cell?
  rw [hx.2.2 c h1 (by omega)]
theorem SlA.on {lo n : Nat} {w w' : World} {v : Value} {f : Nat → Int} (h : SlA lo w v n f) (hb : Below w.heap.size w w') : SlA lo w' v n f := by
  obtain ⟨c, cap, h0, h1, h2, h3, h4⟩ := h
  exact ⟨c, cap, h0, Nat.lt_of_lt_of_le h1 hb.size, h2, h3, h4.below hb h1⟩
theorem SlA.le {lo lo' n : Nat} {w : World} {v : Value} {f : Nat → Int} (h : SlA lo w v n f) (hl : lo' ≤ lo) : SlA lo' w v n f := by
  obtain ⟨c, cap, h0, h1⟩ := h
  exact ⟨c, cap, by omega, h1⟩
theorem sla_of_list {w : World} {l : List Int} {t : TypeId} {lo : Nat} (hlo : lo < w.heap.size) : SlA lo (w.alloc (.cells (l.map (Value.int .i64)).toArray t)) (.slice (some ⟨w.heap.size, 0, none⟩) l.length l.length) l.length (fun i => l.getD i 0) := by
  refine ⟨w.heap.size, l.length, hlo, by simp, rfl, Nat.le_refl _, fun k hk => ?_⟩
  rw [World.cell?_alloc_at _ _ _ _ rfl]
  simp [hk]
theorem cvN_le (r : Nat) : cvN r ≤ 9223372036854775807 := by
  unfold cvN cvL
  split <;> (try split) <;> (try split) <;> simp

set_option maxRecDepth 100000 in
set_option maxHeartbeats 1000000 in
theorem refCurve_any {q : Int} {w : World} :
    Calls Try.prog 61 #[.int .i64 q] w fun e w' => ∃ v, e = .returned v ∧ (∀ lo, lo < w.heap.size → SlA lo w' v (cvN (q % 4).toNat) (cvF (q % 4).toNat)) ∧ Below w.heap.size w w' := by
  have am : ∀ x : Int, bits .and .i64 x 3 = x % 4 := fun x => and_mask 2 x (by omega)
  have hq := Int.emod_nonneg q (b := 4) (by omega)
  have hq' := Int.emod_lt_of_pos q (b := 4) (by omega)
  obtain ⟨r, hr⟩ := Int.eq_ofNat_of_zero_le hq
  rw [hr] at hq'
  have e : (q % 4).toNat = r := by omega
  rw [e]
  have hr4 : r < 4 := by omega
  clear hq hq' e
  have fin : ∀ (l : List Int) (t : TypeId), cvL r = l → ∀ lo, lo < w.heap.size → SlA lo (w.alloc (.cells (l.map (Value.int .i64)).toArray t)) (.slice (some ⟨w.heap.size, 0, none⟩) l.length l.length) (cvN r) (cvF r) := fun l t h lo hlo => by
    have := sla_of_list (w := w) (l := l) (t := t) hlo
    unfold cvN cvF
    rw [h]
    exact this
  have FIN := Lib.hid fin
  have hbl : ∀ o : Obj, Below w.heap.size w (w.alloc o) := fun o => (Below.refl _ _).alloc (Nat.le_refl _) o
  clear fin
  obtain rfl | rfl | rfl | rfl : r = 0 ∨ r = 1 ∨ r = 2 ∨ r = 3 := by omega
  · have h0 : q % 4 = 0 := hr
    clear hr
    go_enter Try.func61, Try.ntmps61
    go_wp2
    go_ret
    exact ⟨_, rfl, FIN.out [0, 65535] _ rfl, hbl _⟩
  · have h0 : q % 4 = 1 := hr
    clear hr
    go_enter Try.func61, Try.ntmps61
    go_wp2
    go_ret
    exact ⟨_, rfl, FIN.out [0, 4096, 16384, 36864, 65535] _ rfl, hbl _⟩
  · have h0 : q % 4 = 2 := hr
    clear hr
    go_enter Try.func61, Try.ntmps61
    go_wp2
    go_ret
    exact ⟨_, rfl, FIN.out [0, 40000, 65535] _ rfl, hbl _⟩
  · have h0 : q % 4 = 3 := hr
    clear hr
    go_enter Try.func61, Try.ntmps61
    go_wp2
    go_ret
    exact ⟨_, rfl, FIN.out [100, 100, 30000, 30000, 65000] _ rfl, hbl _⟩

end Go.Proofs.Ytmilljlkcbljpaa

/- Device of the reference. -/
namespace Go.Proofs.Ytmilljlkcbljpaa
open Go.RowKit Go.Sort

set_option maxRecDepth 100000 in
set_option maxHeartbeats 4000000 in
theorem refDevice_any (w : World) :
    Calls Try.prog 60 #[] w fun e w' => ∃ v : Nat → Value, e = .returned (spc v idM idM) ∧ Crv w' w'.heap.size v (fun _ => 2) (fun _ => cvF 0) ∧ Below w.heap.size w w' := by
  obtain ⟨w0, h0⟩ : ∃ w0, w.alloc (.cells #[.slice none 0 0, .slice none 0 0, .slice none 0 0, .int .i64 0, .int .i64 0, .int .i64 0, .int .i64 0, .int .i64 0, .int .i64 0, .int .i64 0, .int .i64 0, .int .i64 0, .int .i64 0, .int .i64 0, .int .i64 0, .int .i64 0, .int .i64 0, .int .i64 0, .int .i64 0, .int .i64 0, .int .i64 0] 63) = w0 := ⟨_, rfl⟩
  have t0 : Spb 63 w0 w.heap.size (fun _ => .slice none 0 0) (fun _ => 0) (fun _ => 0) := by rw [← h0]; exact Spb.new w (fun _ => .slice none 0 0) (fun _ => 0) (fun _ => 0) _
  have hb0 : Below w.heap.size w w0 := by rw [← h0]; exact (Below.refl _ _).alloc (Nat.le_refl _) _
  obtain ⟨w1, h1⟩ : ∃ w1, w0.alloc (.cells #[.int .i64 0, .int .i64 65535] 3) = w1 := ⟨_, rfl⟩
  have sl : Sl w1 w1.heap.size (.slice (some ⟨w0.heap.size, 0, none⟩) 2 2) 2 (cvF 0) := by
    rw [← h1]
    exact (sl_of_list (w := w0) (l := [0, 65535]) (t := 3)).mono (by simp)
  have hb1 : Below w0.heap.size w0 w1 := by rw [← h1]; exact (Below.refl _ _).alloc (Nat.le_refl _) _
  obtain ⟨w2, h2⟩ : ∃ w2, w1.alloc (.cells #[.int .i64 4096, .int .i64 0, .int .i64 0, .int .i64 0, .int .i64 4096, .int .i64 0, .int .i64 0, .int .i64 0, .int .i64 4096] 61) = w2 := ⟨_, rfl⟩
  have hM : Mat 61 w2 w1.heap.size idM := by rw [← h2]; exact Mat.new w1 idM _
  have hb2 : Below w1.heap.size w1 w2 := by rw [← h2]; exact (Below.refl _ _).alloc (Nat.le_refl _) _
  have hb02 : Below w0.heap.size w0 w2 := hb1.trans (hb2.mono hb1.size)
  have T0 := Lib.hid (t0.on hb02)
  have SL := Lib.hid ((sl.below hb2 (Nat.le_refl _)).mono hb2.size)
  have hq2 := hb0.trans (hb02.mono hb0.size)
  have l0 := t0.lt
  have s0 := hM.cell 0 (by omega)
  have s1 := hM.cell 1 (by omega)
  have s2 := hM.cell 2 (by omega)
  have s3 := hM.cell 3 (by omega)
  have s4 := hM.cell 4 (by omega)
  have s5 := hM.cell 5 (by omega)
  have s6 := hM.cell 6 (by omega)
  have s7 := hM.cell 7 (by omega)
  have s8 := hM.cell 8 (by omega)
  simp [idM] at s0 s1 s2 s3 s4 s5 s6 s7 s8
  clear t0 sl hM hb0 hb1 hb2 hb02
  obtain ⟨vs, hvs⟩ : ∃ vs : Nat → Value, vs = fun _ => .slice (some ⟨w0.heap.size, 0, none⟩) 2 2 := ⟨_, rfl⟩
  have HV := Lib.hid hvs
  clear hvs
  have hl := T0.out.lt
  go_enter Try.func60, Try.ntmps60
  go_wp2_with (refine list_store (cs := #[.slice (some ⟨w0.heap.size, 0, none⟩) 2 2, .slice (some ⟨w0.heap.size, 0, none⟩) 2 2, .slice (some ⟨w0.heap.size, 0, none⟩) 2 2, .int .i64 4096, .int .i64 0, .int .i64 0, .int .i64 0, .int .i64 4096, .int .i64 0, .int .i64 0, .int .i64 0, .int .i64 4096, .int .i64 4096, .int .i64 0, .int .i64 0, .int .i64 0, .int .i64 4096, .int .i64 0, .int .i64 0, .int .i64 0, .int .i64 4096]) rfl 63 (.tmp 0) (.tmp 11) (by rfl) (by rfl) (by rfl) T0.out info_space rfl (by simp [Value.oneCell']) ?_; intro W4 h4 hx; have h4' := Lib.hid h4; clear h4)
  have hR : Hid (Spb 63 W4 w.heap.size vs idM idM) := Lib.hid (by rw [HV.out]; exact h4'.out)
  refine bodyPost_ret (v := spc vs idM idM) (results_cell_row rfl _ _ w.heap.size _ _ _ _ rfl hR.out Try.underlying63 rfl info_space) rfl ?_
  have hbs : Below w.heap.size w W4 := Exc.below hq2 hx (Nat.le_refl _) hq2.size
  refine ⟨vs, rfl, fun i hi => ⟨show 2 ≤ 9223372036854775807 by omega, ?_⟩, hbs⟩
  rw [HV.out]
  refine .inr ⟨w0.heap.size, 0, 2, rfl, ⟨?_, Nat.le_refl _⟩, fun k hk => ?_⟩
  · have := hx.2.1; have h := SL.out; rcases h with ⟨h, _⟩ | ⟨b, off, cap, hs, hb, _⟩
    · cases h
    · cases hs; omega
  · have h := SL.out; rcases h with ⟨h, _⟩ | ⟨b, off, cap, hs, hb, hc⟩
    · cases h
    · cases hs
      have hc' := hc k hk
      rw [← hc']
      unfold World.cell?
      rw [hx.2.2 w0.heap.size (by omega) (by omega)]

end Go.Proofs.Ytmilljlkcbljpaa

/- The four curves and the four pairs of matrices of the reference are valid. -/
namespace Go.Proofs.Ytmilljlkcbljpaa
open Go.RowKit Go.Sort

theorem cv_vld {r : Nat} (hr : r < 4) : Vld (cvN r) (cvF r) := by
  obtain rfl | rfl | rfl | rfl : r = 0 ∨ r = 1 ∨ r = 2 ∨ r = 3 := by omega
  all_goals
    refine ⟨by decide, by decide, by decide, by decide, fun k hk => ?_⟩
    have h5 : k < 4 := by
      have : ∀ r, r < 4 → cvN r ≤ 5 := by decide
      have := this _ hr
      omega
    obtain rfl | rfl | rfl | rfl : k = 0 ∨ k = 1 ∨ k = 2 ∨ k = 3 := by omega
    all_goals first | decide | (exact absurd hk (by decide))

def spT (r j : Nat) : Int := (if r = 1 then [0, 4096, 0, 0, 0, 4096, 4096, 0, 0] else if r = 2 then [2048, 0, 0, 0, 8192, 0, 0, 0, 4096] else if r = 3 then [4096, 2048, 0, 0, 4096, 0, 0, 1024, 4096] else [4096, 0, 0, 0, 4096, 0, 0, 0, 4096] : List Int).getD j 0
def spF (r j : Nat) : Int := (if r = 1 then [0, 0, 4096, 4096, 0, 0, 0, 4096, 0] else if r = 2 then [8192, 0, 0, 0, 2048, 0, 0, 0, 4096] else if r = 3 then [4096, -2048, 0, 0, 4096, 0, 0, -1024, 4096] else [4096, 0, 0, 0, 4096, 0, 0, 0, 4096] : List Int).getD j 0
theorem spT_ent {r : Nat} (hr : r < 4) : Ent (spT r) := by
  obtain rfl | rfl | rfl | rfl : r = 0 ∨ r = 1 ∨ r = 2 ∨ r = 3 := by omega
  all_goals
    intro j hj
    obtain rfl | rfl | rfl | rfl | rfl | rfl | rfl | rfl | rfl : j = 0 ∨ j = 1 ∨ j = 2 ∨ j = 3 ∨ j = 4 ∨ j = 5 ∨ j = 6 ∨ j = 7 ∨ j = 8 := by omega
    all_goals decide
theorem spF_ent {r : Nat} (hr : r < 4) : Ent (spF r) := by
  obtain rfl | rfl | rfl | rfl : r = 0 ∨ r = 1 ∨ r = 2 ∨ r = 3 := by omega
  all_goals
    intro j hj
    obtain rfl | rfl | rfl | rfl | rfl | rfl | rfl | rfl | rfl : j = 0 ∨ j = 1 ∨ j = 2 ∨ j = 3 ∨ j = 4 ∨ j = 5 ∨ j = 6 ∨ j = 7 ∨ j = 8 := by omega
    all_goals decide
theorem sp_inv {r : Nat} (hr : r < 4) : Inv (spF r) (spT r) := by
  obtain rfl | rfl | rfl | rfl : r = 0 ∨ r = 1 ∨ r = 2 ∨ r = 3 := by omega
  all_goals
    intro i hi
    unfold nearV prdV
    obtain rfl | rfl | rfl | rfl | rfl | rfl | rfl | rfl | rfl : i = 0 ∨ i = 1 ∨ i = 2 ∨ i = 3 ∨ i = 4 ∨ i = 5 ∨ i = 6 ∨ i = 7 ∨ i = 8 := by omega
    all_goals decide
theorem sp_val {r : Nat} {k : Nat → Nat} (hr : r < 4) (hk : ∀ i, k i < 4) : SpV (fun i => cvN (k i)) (fun i => cvF (k i)) (spT r) (spF r) := ⟨fun i _ => cv_vld (hk i), spT_ent hr, spF_ent hr, sp_inv hr⟩

end Go.Proofs.Ytmilljlkcbljpaa

/- Stores into a part of a space. -/
namespace Go.Proofs.Ytmilljlkcbljpaa
open Go.RowKit Go.Sort

def set9 (w : World) (b off : Nat) (t : Nat → Int) : World := ((((((((w.setCell ⟨b, off, none⟩ (.int .i64 (t 0))).setCell ⟨b, off + 1, none⟩ (.int .i64 (t 1))).setCell ⟨b, off + 2, none⟩ (.int .i64 (t 2))).setCell ⟨b, off + 3, none⟩ (.int .i64 (t 3))).setCell ⟨b, off + 4, none⟩ (.int .i64 (t 4))).setCell ⟨b, off + 5, none⟩ (.int .i64 (t 5))).setCell ⟨b, off + 6, none⟩ (.int .i64 (t 6))).setCell ⟨b, off + 7, none⟩ (.int .i64 (t 7))).setCell ⟨b, off + 8, none⟩ (.int .i64 (t 8))
theorem set9_heap {w : World} {b off : Nat} {cs : Array Value} {ty : TypeId} (h : w.heap[b]? = some (.cells cs ty (0, 0))) (t : Nat → Int) :
    (set9 w b off t).heap[b]? = some (.cells (((((((((cs.setIfInBounds off (.int .i64 (t 0))).setIfInBounds (off + 1) (.int .i64 (t 1))).setIfInBounds (off + 2) (.int .i64 (t 2))).setIfInBounds (off + 3) (.int .i64 (t 3))).setIfInBounds (off + 4) (.int .i64 (t 4))).setIfInBounds (off + 5) (.int .i64 (t 5))).setIfInBounds (off + 6) (.int .i64 (t 6))).setIfInBounds (off + 7) (.int .i64 (t 7))).setIfInBounds (off + 8) (.int .i64 (t 8))) ty (0, 0)) := by
  have h0 := heap_setCell_same w b off _ _ (.int .i64 (t 0)) h
  have h1 := heap_setCell_same _ b (off + 1) _ _ (.int .i64 (t 1)) h0
  have h2 := heap_setCell_same _ b (off + 2) _ _ (.int .i64 (t 2)) h1
  have h3 := heap_setCell_same _ b (off + 3) _ _ (.int .i64 (t 3)) h2
  have h4 := heap_setCell_same _ b (off + 4) _ _ (.int .i64 (t 4)) h3
  have h5 := heap_setCell_same _ b (off + 5) _ _ (.int .i64 (t 5)) h4
  have h6 := heap_setCell_same _ b (off + 6) _ _ (.int .i64 (t 6)) h5
  have h7 := heap_setCell_same _ b (off + 7) _ _ (.int .i64 (t 7)) h6
  exact heap_setCell_same _ b (off + 8) _ _ (.int .i64 (t 8)) h7
theorem Spb.setTo {ty : TypeId} {w : World} {b : Nat} {v : Nat → Value} {t m : Nat → Int} (h : Spb ty w b v t m) (t' : Nat → Int) : Spb ty (set9 w b 3 t') b v t' m := by
  unfold Spb
  rw [set9_heap h t']
  kernel_rfl
theorem Spb.setFr {ty : TypeId} {w : World} {b : Nat} {v : Nat → Value} {t m : Nat → Int} (h : Spb ty w b v t m) (m' : Nat → Int) : Spb ty (set9 w b 12 m') b v t m' := by
  unfold Spb
  rw [set9_heap h m']
  kernel_rfl
theorem Spb.setCv {ty : TypeId} {w : World} {b j : Nat} {v : Nat → Value} {t m : Nat → Int} (h : Spb ty w b v t m) (hj : j < 3) (x : Value) : Spb ty (w.setCell ⟨b, j, none⟩ x) b (fun i => if i = j then x else v i) t m := by
  unfold Spb
  rw [heap_setCell_same w b j _ _ x h]
  obtain rfl | rfl | rfl : j = 0 ∨ j = 1 ∨ j = 2 := by omega
  all_goals rfl

end Go.Proofs.Ytmilljlkcbljpaa

/- Space of the reference. -/
namespace Go.Proofs.Ytmilljlkcbljpaa
open Go.RowKit Go.Sort

/-- The number of a space. -/
def spQ (q : Int) : Nat := ((q.tmod 256 + 256) % 256).toNat
theorem spQ_lt (q : Int) : spQ q < 256 := by unfold spQ; omega

theorem Exc.set9 (w : World) (b off : Nat) (t : Nat → Int) : Exc b w (set9 w b off t) := (((((((((Exc.refl b w).set _).set _).set _).set _).set _).set _).set _).set _).set _

def mxL (t : Nat → Int) : List Value := [.int .i64 (t 0), .int .i64 (t 1), .int .i64 (t 2), .int .i64 (t 3), .int .i64 (t 4), .int .i64 (t 5), .int .i64 (t 6), .int .i64 (t 7), .int .i64 (t 8)]
def boxT : Array Value := #[.int .i64 4096, .int .i64 0, .int .i64 0, .int .i64 0, .int .i64 4096, .int .i64 0, .int .i64 0, .int .i64 0, .int .i64 4096, .int .i64 0, .int .i64 4096, .int .i64 0, .int .i64 0, .int .i64 0, .int .i64 4096, .int .i64 4096, .int .i64 0, .int .i64 0, .int .i64 2048, .int .i64 0, .int .i64 0, .int .i64 0, .int .i64 8192, .int .i64 0, .int .i64 0, .int .i64 0, .int .i64 4096, .int .i64 4096, .int .i64 2048, .int .i64 0, .int .i64 0, .int .i64 4096, .int .i64 0, .int .i64 0, .int .i64 1024, .int .i64 4096]
def boxF : Array Value := #[.int .i64 4096, .int .i64 0, .int .i64 0, .int .i64 0, .int .i64 4096, .int .i64 0, .int .i64 0, .int .i64 0, .int .i64 4096, .int .i64 0, .int .i64 0, .int .i64 4096, .int .i64 4096, .int .i64 0, .int .i64 0, .int .i64 0, .int .i64 4096, .int .i64 0, .int .i64 8192, .int .i64 0, .int .i64 0, .int .i64 0, .int .i64 2048, .int .i64 0, .int .i64 0, .int .i64 0, .int .i64 4096, .int .i64 4096, .int .i64 (-2048), .int .i64 0, .int .i64 0, .int .i64 4096, .int .i64 0, .int .i64 0, .int .i64 (-1024), .int .i64 4096]
theorem boxT_at {r : Nat} (hr : r < 4) (j : Nat) (v : Value) (h : (mxL (spT r))[j]? = some v) : boxT[9 * r + j]? = some v := by
  have hj : j < 9 := (List.getElem?_eq_some_iff.1 h).1
  rw [← h]
  obtain rfl | rfl | rfl | rfl : r = 0 ∨ r = 1 ∨ r = 2 ∨ r = 3 := by omega
  all_goals
    obtain rfl | rfl | rfl | rfl | rfl | rfl | rfl | rfl | rfl : j = 0 ∨ j = 1 ∨ j = 2 ∨ j = 3 ∨ j = 4 ∨ j = 5 ∨ j = 6 ∨ j = 7 ∨ j = 8 := by omega
    all_goals rfl
theorem boxF_at {r : Nat} (hr : r < 4) (j : Nat) (v : Value) (h : (mxL (spF r))[j]? = some v) : boxF[9 * r + j]? = some v := by
  have hj : j < 9 := (List.getElem?_eq_some_iff.1 h).1
  rw [← h]
  obtain rfl | rfl | rfl | rfl : r = 0 ∨ r = 1 ∨ r = 2 ∨ r = 3 := by omega
  all_goals
    obtain rfl | rfl | rfl | rfl | rfl | rfl | rfl | rfl | rfl : j = 0 ∨ j = 1 ∨ j = 2 ∨ j = 3 ∨ j = 4 ∨ j = 5 ∨ j = 6 ∨ j = 7 ∨ j = 8 := by omega
    all_goals rfl

/-- A load of a matrix out of a box of four. -/
theorem box_load {ops : Array Oper} {rest : List Oper} {o : Oper} {a : Act} {w : World} {Q : Exit → Act → World → Prop} (hgd : o.guard = none) (x : Operand) (ho : o.op = .load 61 x) {b off r : Nat} {cs : Array Value} {ty : TypeId} {t : Nat → Int}
    (hx : a.eval x = .pointer (some ⟨b, off, none⟩)) (hoff : off = 9 * r) (hw : w.heap[b]? = some (.cells cs ty (0, 0))) (ht : ∀ j v, (mxL t)[j]? = some v → cs[9 * r + j]? = some v)
    (h : wpList Try.prog ops Q rest (a.put o.dst (.agg (mxL t).toArray)) w) : wpList Try.prog ops Q (o :: rest) a w :=
  wpList_load_mid hgd 61 x ho b off hx (mxL t) _ (fun j v hv => by rw [cell_of_row w b (off + j) _ _ _ hw, hoff]; exact ht j v hv) Try.underlying61 rfl (by kernel_rfl) h
/-- A store of a matrix into a part of a space. -/
theorem part_store {ops : Array Oper} {rest : List Oper} {o : Oper} {a : Act} {w : World} {Q : Exit → Act → World → Prop} (hgd : o.guard = none) (x y : Operand) (ho : o.op = .store 61 x y) {b off : Nat} {v : Nat → Value} {t m t' : Nat → Int} {ty : TypeId}
    (hx : a.eval x = .pointer (some ⟨b, off, none⟩)) (hy : a.eval y = .agg (mxL t').toArray) (hs : Spb ty w b v t m) (hoff : off + 9 ≤ 21)
    (h : ∀ w', w' = set9 w b off t' → Exc b w w' → wpList Try.prog ops Q rest (a.put o.dst undef) w') : wpList Try.prog ops Q (o :: rest) a w :=
  wpList_store_mid hgd 61 x y ho b off _ hx hy (fun j hj => ⟨by rw [cell_of_row w b (off + j) _ _ _ hs]; have : off + j < (spA v t m).size := (by have : j < 9 := hj; show off + j < 21; omega); simp [this], hs.free _⟩) (by kernel_rfl) (by simp [mxL, Value.oneCell'])
    (h _ rfl (Exc.set9 w b off t'))

set_option maxRecDepth 100000 in
set_option maxHeartbeats 8000000 in
theorem refSpace_any {q : Int} {w : World} :
    Calls Try.prog 27 #[.int .i64 q] w fun e w' => ∃ v : Nat → Value, e = .returned (spc v (spT (spQ q % 4)) (spF (spQ q % 4))) ∧ Crv w' w'.heap.size v (fun i => cvN (spQ q / 4 / 4 ^ i % 4)) (fun i => cvF (spQ q / 4 / 4 ^ i % 4)) ∧ Below w.heap.size w w' ∧ ∀ i, i < 3 → SlA w.heap.size w' (v i) (cvN (spQ q / 4 / 4 ^ i % 4)) (cvF (spQ q / 4 / 4 ^ i % 4)) := by
  have h1 := Int.tmod_lt_of_pos q (b := 256) (by omega)
  have h2 := Int.tmod_lt_of_pos (-q) (b := 256) (by omega)
  rw [Int.neg_tmod] at h2
  obtain ⟨Q, hQ⟩ : ∃ Q, spQ q = Q := ⟨_, rfl⟩
  have hQ256 : Q < 256 := by rw [← hQ]; exact spQ_lt q
  have eQ : (q.tmod 256 + 256) % 256 = (Q : Int) := by rw [← hQ]; unfold spQ; omega
  rw [hQ]
  have p1 : 0 ≤ q.tmod 256 + 256 ∧ q.tmod 256 + 256 ≤ 512 := by omega
  clear hQ
  obtain ⟨r, hr⟩ : ∃ r, Q % 4 = r := ⟨_, rfl⟩
  have hr4 : r < 4 := by omega
  have er : (Q : Int) % 4 = (r : Int) := by omega
  rw [hr]
  obtain ⟨p, hp⟩ : ∃ p, Q / 4 = p := ⟨_, rfl⟩
  have hp64 : p < 64 := by omega
  have ep : (Q : Int) / 4 = (p : Int) := by omega
  rw [hp]
  clear hr hp
  obtain ⟨w0, h0⟩ : ∃ w0, w.alloc (.cells #[.slice none 0 0, .slice none 0 0, .slice none 0 0, .int .i64 0, .int .i64 0, .int .i64 0, .int .i64 0, .int .i64 0, .int .i64 0, .int .i64 0, .int .i64 0, .int .i64 0, .int .i64 0, .int .i64 0, .int .i64 0, .int .i64 0, .int .i64 0, .int .i64 0, .int .i64 0, .int .i64 0, .int .i64 0] 63) = w0 := ⟨_, rfl⟩
  have t0 : Spb 63 w0 w.heap.size (fun _ => .slice none 0 0) (fun _ => 0) (fun _ => 0) := by rw [← h0]; exact Spb.new w (fun _ => .slice none 0 0) (fun _ => 0) (fun _ => 0) _
  have hb0 : Below w.heap.size w w0 := by rw [← h0]; exact (Below.refl _ _).alloc (Nat.le_refl _) _
  have T0 := Lib.hid t0
  clear t0
  go_enter Try.func27, Try.ntmps27
  go_wp2_with fail
  clear h0
  refine (refDevice_any w0).mono ?_
  rintro e w1 ⟨vd, rfl, hcd, hb1⟩
  obtain ⟨w2, h2⟩ : ∃ w2, w1.alloc (.cells #[.slice none 0 0, .slice none 0 0, .slice none 0 0, .int .i64 0, .int .i64 0, .int .i64 0, .int .i64 0, .int .i64 0, .int .i64 0, .int .i64 0, .int .i64 0, .int .i64 0, .int .i64 0, .int .i64 0, .int .i64 0, .int .i64 0, .int .i64 0, .int .i64 0, .int .i64 0, .int .i64 0, .int .i64 0] 63) = w2 := ⟨_, rfl⟩
  have TS : Hid (Spb 63 w2 w1.heap.size (fun _ => .slice none 0 0) (fun _ => 0) (fun _ => 0)) := Lib.hid (by rw [← h2]; exact Spb.new w1 (fun _ => .slice none 0 0) (fun _ => 0) (fun _ => 0) _)
  have hb2 : Below w1.heap.size w1 w2 := by rw [← h2]; exact (Below.refl _ _).alloc (Nat.le_refl _) _
  have hone := Lib.hid (sp_one hcd idM idM)
  have l1 : w1.heap.size < w2.heap.size := by rw [← h2]; simp
  have hz36 : Hid ((boxT).all (·.oneCell') = true) := Lib.hid (by simp [boxT, Value.oneCell'])
  have hy36 : Hid ((boxF).all (·.oneCell') = true) := Lib.hid (by simp [boxF, Value.oneCell'])
  go_wp2_with (first
    | (refine list_store (cs := spA vd idM idM) rfl 63 (.tmp 3) (.tmp 11) (by rfl) (by rfl) (by rfl) TS.out info_space rfl hone.out ?_
       intro w3 h3 hx3
       have TS3 : Hid (Spb 63 w3 w1.heap.size vd idM idM) := Lib.hid h3
       have s0 := TS3.out.to 0 (by omega)
       have s1 := TS3.out.to 1 (by omega)
       have s2 := TS3.out.to 2 (by omega)
       have s3 := TS3.out.to 3 (by omega)
       have s4 := TS3.out.to 4 (by omega)
       have s5 := TS3.out.to 5 (by omega)
       have s6 := TS3.out.to 6 (by omega)
       have s7 := TS3.out.to 7 (by omega)
       have s8 := TS3.out.to 8 (by omega)
       simp [idM] at s0 s1 s2 s3 s4 s5 s6 s7 s8
       obtain ⟨wA, hA⟩ : ∃ wA, w3.alloc (.cells #[.int .i64 0, .int .i64 0, .int .i64 0, .int .i64 0, .int .i64 0, .int .i64 0, .int .i64 0, .int .i64 0, .int .i64 0, .int .i64 0, .int .i64 0, .int .i64 0, .int .i64 0, .int .i64 0, .int .i64 0, .int .i64 0, .int .i64 0, .int .i64 0, .int .i64 0, .int .i64 0, .int .i64 0, .int .i64 0, .int .i64 0, .int .i64 0, .int .i64 0, .int .i64 0, .int .i64 0, .int .i64 0, .int .i64 0, .int .i64 0, .int .i64 0, .int .i64 0, .int .i64 0, .int .i64 0, .int .i64 0, .int .i64 0] 90) = wA := ⟨_, rfl⟩
       have BA : Hid (wA.heap[w3.heap.size]? = some (.cells #[.int .i64 0, .int .i64 0, .int .i64 0, .int .i64 0, .int .i64 0, .int .i64 0, .int .i64 0, .int .i64 0, .int .i64 0, .int .i64 0, .int .i64 0, .int .i64 0, .int .i64 0, .int .i64 0, .int .i64 0, .int .i64 0, .int .i64 0, .int .i64 0, .int .i64 0, .int .i64 0, .int .i64 0, .int .i64 0, .int .i64 0, .int .i64 0, .int .i64 0, .int .i64 0, .int .i64 0, .int .i64 0, .int .i64 0, .int .i64 0, .int .i64 0, .int .i64 0, .int .i64 0, .int .i64 0, .int .i64 0, .int .i64 0] 90 (0, 0))) := Lib.hid (by rw [← hA]; exact heap_alloc_new w3 _)
       have TSA : Hid (Spb 63 wA w1.heap.size vd idM idM) := Lib.hid (by rw [← hA]; exact TS3.out.alloc _)
       have XA : Exc w1.heap.size w2 wA := hx3.trans (by rw [← hA]; exact Exc.of_below ((Below.refl _ _).alloc (Nat.le_refl _) _))
       clear h3 h2)
    | (refine list_store (cs := boxT) rfl 90 (.tmp 4) (.tmp 17) (by rfl) (by rfl) (by rfl) BA.out (by kernel_rfl) rfl hz36.out ?_
       intro w4 h4 hx4
       have B1 : Hid (w4.heap[w3.heap.size]? = some (.cells boxT 90 (0, 0))) := Lib.hid h4
       have l3 : w1.heap.size < w3.heap.size := TS3.out.lt
       have TS4 : Hid (Spb 63 w4 w1.heap.size vd idM idM) := Lib.hid ((hx4.2.2 _ TSA.out.lt (by omega)).trans TSA.out)
       clear s0 s1 s2 s3 s4 s5 s6 s7 s8
       have s0 := TS4.out.to 0 (by omega)
       have s1 := TS4.out.to 1 (by omega)
       have s2 := TS4.out.to 2 (by omega)
       have s3 := TS4.out.to 3 (by omega)
       have s4 := TS4.out.to 4 (by omega)
       have s5 := TS4.out.to 5 (by omega)
       have s6 := TS4.out.to 6 (by omega)
       have s7 := TS4.out.to 7 (by omega)
       have s8 := TS4.out.to 8 (by omega)
       simp [idM] at s0 s1 s2 s3 s4 s5 s6 s7 s8
       obtain ⟨wB, hB⟩ : ∃ wB, w4.alloc (.cells #[.int .i64 0, .int .i64 0, .int .i64 0, .int .i64 0, .int .i64 0, .int .i64 0, .int .i64 0, .int .i64 0, .int .i64 0, .int .i64 0, .int .i64 0, .int .i64 0, .int .i64 0, .int .i64 0, .int .i64 0, .int .i64 0, .int .i64 0, .int .i64 0, .int .i64 0, .int .i64 0, .int .i64 0, .int .i64 0, .int .i64 0, .int .i64 0, .int .i64 0, .int .i64 0, .int .i64 0, .int .i64 0, .int .i64 0, .int .i64 0, .int .i64 0, .int .i64 0, .int .i64 0, .int .i64 0, .int .i64 0, .int .i64 0] 90) = wB := ⟨_, rfl⟩
       have BB : Hid (wB.heap[w4.heap.size]? = some (.cells #[.int .i64 0, .int .i64 0, .int .i64 0, .int .i64 0, .int .i64 0, .int .i64 0, .int .i64 0, .int .i64 0, .int .i64 0, .int .i64 0, .int .i64 0, .int .i64 0, .int .i64 0, .int .i64 0, .int .i64 0, .int .i64 0, .int .i64 0, .int .i64 0, .int .i64 0, .int .i64 0, .int .i64 0, .int .i64 0, .int .i64 0, .int .i64 0, .int .i64 0, .int .i64 0, .int .i64 0, .int .i64 0, .int .i64 0, .int .i64 0, .int .i64 0, .int .i64 0, .int .i64 0, .int .i64 0, .int .i64 0, .int .i64 0] 90 (0, 0))) := Lib.hid (by rw [← hB]; exact heap_alloc_new w4 _)
       have l4 : w3.heap.size < w4.heap.size := (Array.getElem?_eq_some_iff.1 h4).1
       have TSB : Hid (Spb 63 wB w1.heap.size vd idM idM) := Lib.hid (by rw [← hB]; exact TS4.out.alloc _)
       have B1B : Hid (wB.heap[w3.heap.size]? = some (.cells boxT 90 (0, 0))) := Lib.hid (by rw [← hB, (((Below.refl w4.heap.size w4).alloc (Nat.le_refl _) _).block _ l4)]; exact h4)
       have XB0 : Below w2.heap.size wA w4 := Exc.below (Below.refl _ _) hx4 hx3.2.1 (by have := XA.2.1; omega)
       have XB : Below w2.heap.size wA wB := XB0.trans (by rw [← hB]; exact (Below.refl _ _).alloc (by have := hx3.2.1; omega) _)
       clear h4 hA hx4 XB0 B1 BA TS4 TSA TS3)
    | (refine list_store (cs := boxF) rfl 90 (.tmp 5) (.tmp 23) (by rfl) (by rfl) (by rfl) BB.out (by kernel_rfl) rfl hy36.out ?_
       intro w5 h5 hx5
       have hx5' : Hid (Exc w4.heap.size wB w5) := Lib.hid hx5
       have B2 : Hid (w5.heap[w4.heap.size]? = some (.cells boxF 90 (0, 0))) := Lib.hid h5
       have TS5 : Hid (Spb 63 w5 w1.heap.size vd idM idM) := Lib.hid ((hx5.2.2 _ TSB.out.lt (by omega)).trans TSB.out)
       have B15 : Hid (w5.heap[w3.heap.size]? = some (.cells boxT 90 (0, 0))) := Lib.hid ((hx5.2.2 _ (Array.getElem?_eq_some_iff.1 B1B.out).1 (by omega)).trans B1B.out)
       clear s0 s1 s2 s3 s4 s5 s6 s7 s8 h5 hB hx5 BB B1B TSB)
    | (refine box_load (t := spT r) (r := r) rfl (.tmp 26) (by rfl) (by rfl) (by omega) B15.out (boxT_at hr4) ?_)
    | (refine part_store (off := 3) (t' := spT r) rfl (.tmp 28) (.tmp 27) (by rfl) (by rfl) (by rfl) TS5.out (by omega) ?_
       intro w6 e6 hx6
       have hx6' : Hid (Exc w1.heap.size w5 w6) := Lib.hid hx6
       have TS6 : Hid (Spb 63 w6 w1.heap.size vd (spT r) idM) := Lib.hid (by rw [e6]; exact TS5.out.setTo (spT r))
       have B26 : Hid (w6.heap[w4.heap.size]? = some (.cells boxF 90 (0, 0))) := Lib.hid ((hx6.2.2 _ (Array.getElem?_eq_some_iff.1 B2.out).1 (by omega)).trans B2.out)
       clear e6 hx6)
    | (refine box_load (t := spF r) (r := r) rfl (.tmp 31) (by rfl) (by rfl) (by omega) B26.out (boxF_at hr4) ?_)
    | (refine part_store (off := 12) (t' := spF r) rfl (.tmp 33) (.tmp 32) (by rfl) (by rfl) (by rfl) TS6.out (by omega) ?_
       intro w7 e7 hx7
       have hx7' : Hid (Exc w1.heap.size w6 w7) := Lib.hid hx7
       have TS7 : Hid (Spb 63 w7 w1.heap.size vd (spT r) (spF r)) := Lib.hid (by rw [e7]; exact TS6.out.setFr (spF r))
       clear e7 hx7))
  have hq17 : Below w1.heap.size w1 w7 := by
    have a1 : Below w1.heap.size w1 wA := Exc.below hb2 XA (Nat.le_refl _) hb2.size
    have a2 : Below w1.heap.size w1 wB := a1.trans (XB.mono (Nat.le_of_lt l1))
    have a3 : Below w1.heap.size w1 w5 := Exc.below a2 hx5'.out (by omega) a2.size
    have a4 : Below w1.heap.size w1 w6 := Exc.below a3 hx6'.out (Nat.le_refl _) a3.size
    exact Exc.below a4 hx7'.out (Nat.le_refl _) a4.size
  have HQ := Lib.hid hq17
  have e4 : ∀ k : Nat, k < 3 → ((((p : Int) / 2 ^ (2 * k)) % 4).toNat = p / 4 ^ k % 4) := fun k hk => by
    obtain rfl | rfl | rfl : k = 0 ∨ k = 1 ∨ k = 2 := by omega
    all_goals simp <;> omega
  have E4 := Lib.hid e4
  have l7 := TS7.out.lt
  have H01 := Lib.hid hb1
  have HB := Lib.hid (hb0.trans (hb1.mono hb0.size))
  have hz1 := hb1.size
  clear hq17 e4 hcd hb1 hb2 hone hz36 hy36 hx3 XA XB hx5' hx6' hx7' B2 TS5 B15 TS6 B26 TS hb0
  go_loopw [6] (fun i wr => ∃ (k : Nat) (vs : Nat → Value), k ≤ 3 ∧ i = .int .i64 k ∧ Spb 63 wr w1.heap.size vs (spT r) (spF r) ∧ (∀ j, j < k → SlA w1.heap.size wr (vs j) (cvN (p / 4 ^ j % 4)) (cvF (p / 4 ^ j % 4))) ∧ Below w1.heap.size w1 wr) (fun i _ => 3 - (intOf i).toNat)
  case atStart => exact ⟨0, vd, by omega, rfl, TS7.out, fun j hj => by omega, HQ.out⟩
  case round =>
    obtain ⟨k, vs, hk, rfl, ts, hsl, hb⟩ := hrel
    have TSr := Lib.hid ts
    have HSL := Lib.hid hsl
    have HBr := Lib.hid hb
    clear ts hsl hb
    by_cases hlt : k < 3
    · have ek := E4.out k hlt
      have hpp : (0 : Int) ≤ (p : Int) := by omega
      go_wp2_with fail
      refine (refCurve_any (q := ((p : Int) / 2 ^ (2 * k)))).mono ?_
      rintro e w'' ⟨v, rfl, hv, hbv⟩
      rw [ek] at hv
      have hlw : w1.heap.size < wr.heap.size := TSr.out.lt
      obtain ⟨av, cv, ev⟩ := (hv 0 (by omega)).sl.shape
      have TSv : Hid (Spb 63 w'' w1.heap.size vs (spT r) (spF r)) := Lib.hid (TSr.out.on hbv)
      have HV : Hid (SlA w1.heap.size w'' v (cvN (p / 4 ^ k % 4)) (cvF (p / 4 ^ k % 4))) := Lib.hid (hv _ hlw)
      have HSL' : Hid (∀ j, j < k → SlA w1.heap.size w'' (vs j) (cvN (p / 4 ^ j % 4)) (cvF (p / 4 ^ j % 4))) := Lib.hid fun j hj => (HSL.out j hj).on hbv
      have HBv : Hid (Below w1.heap.size w1 w'') := Lib.hid (HBr.out.trans (hbv.mono HBr.out.size))
      have ck := TSv.out.curve k hlt
      have fk := TSv.out.free k
      have i1 : 0 ≤ (k : Int) ∧ (k : Int) < 3 := by omega
      have EV := Lib.hid ev
      clear ek HSL hv hbv
      subst ev
      go_wp2
      refine ⟨⟨k + 1, fun j => if j = k then _ else vs j, by omega, rfl, TSv.out.setCv hlt _, fun j hj => ?_, HBv.out.setCell (Nat.le_refl _) _⟩, by simp [intOf]; omega⟩
      by_cases e : j = k
      · subst e
        simp only [if_true]
        exact HV.out.exc ((Exc.refl _ _).set _) (Nat.le_refl _)
      · simp only [e, if_false]
        exact (HSL'.out j (by omega)).exc ((Exc.refl _ _).set _) (Nat.le_refl _)
    · have ek : k = 3 := by omega
      subst ek
      have HL : Hid ((loadVar 63 ⟨w1.heap.size, 0, none⟩).run Try.prog wr = .ok (.agg (spA vs (spT r) (spF r))) wr) := Lib.hid (Sp.load0 (s := ⟨vs, fun _ => 0, fun _ _ => 0, spT r, spF r⟩) TSr.out)
      have TR : Hid (Spb 63 wr w.heap.size (fun _ => .slice none 0 0) (fun _ => 0) (fun _ => 0)) := Lib.hid (T0.out.below (H01.out.trans (HBr.out.mono hz1)) T0.out.lt)
      have hone := Lib.hid (sp_one (n := fun i => cvN (p / 4 ^ i % 4)) (f := fun i => cvF (p / 4 ^ i % 4)) (fun i hi => ⟨cvN_le _, (HSL.out i hi).sl⟩) (spT r) (spF r))
      go_wp2_with (first
        | (refine list_load rfl 63 (.tmp 3) (by rfl) (by rfl) HL.out ?_)
        | (refine list_store (cs := spA vs (spT r) (spF r)) rfl 63 (.tmp 2) (.tmp 47) (by rfl) (by rfl) (by rfl) TR.out info_space rfl hone.out ?_
           intro wf hf hxf
           have hf' := Lib.hid hf
           clear hf))
      refine bodyPost_ret (v := spc vs (spT r) (spF r)) (results_cell_row rfl _ _ w.heap.size _ _ _ _ rfl hf'.out Try.underlying63 rfl info_space) rfl ?_
      have hq := HB.out.trans (HBr.out.mono HB.out.size)
      have hbs : Below w.heap.size w wf := Exc.below hq hxf (Nat.le_refl _) hq.size
      refine ⟨vs, rfl, fun i hi => ⟨cvN_le _, ((HSL.out i hi).exc hxf HB.out.size).sl⟩, hbs, fun i hi => ((HSL.out i hi).exc hxf HB.out.size).le HB.out.size⟩

end Go.Proofs.Ytmilljlkcbljpaa

/- Chain of the reference. -/
namespace Go.Proofs.Ytmilljlkcbljpaa
open Go.RowKit Go.Sort

theorem Try.info21 : (Try.prog.info? 63).map (fun i => (i.zero, i.size, i.bytes)) = some (some (.agg #[.slice none 0 0, .slice none 0 0, .slice none 0 0, .int .i64 0, .int .i64 0, .int .i64 0, .int .i64 0, .int .i64 0, .int .i64 0, .int .i64 0, .int .i64 0, .int .i64 0, .int .i64 0, .int .i64 0, .int .i64 0, .int .i64 0, .int .i64 0, .int .i64 0, .int .i64 0, .int .i64 0, .int .i64 0]), 21, 216) := by kernel_rfl

/-- A slice of integers in a block other than that of a row. -/
def SlN (x : Value) (w : World) (v : Value) (n : Nat) (f : Nat → Int) : Prop := ∃ b cap : Nat, b < w.heap.size ∧ v = .slice (some ⟨b, 0, none⟩) n cap ∧ n ≤ cap ∧ Cells w b 0 n f ∧ x.ownBlock ≠ some b
theorem SlN.sl {x v : Value} {w : World} {n : Nat} {f : Nat → Int} (h : SlN x w v n f) : Sl w w.heap.size v n f := by
  obtain ⟨b, cap, h1, h2, h3, h4, _⟩ := h
  exact .inr ⟨b, 0, cap, h2, ⟨h1, h3⟩, h4⟩
theorem SlN.on {x v : Value} {w w' : World} {n : Nat} {f : Nat → Int} (h : SlN x w v n f) (hb : Below w.heap.size w w') : SlN x w' v n f := by
  obtain ⟨b, cap, h1, h2, h3, h4, h5⟩ := h
  exact ⟨b, cap, Nat.lt_of_lt_of_le h1 hb.size, h2, h3, h4.below hb h1, h5⟩
theorem SlN.grown {x x' v : Value} {w w' : World} {n : Nat} {f : Nat → Int} (h : SlN x w v n f) (hg : w.grownBy w' x.ownBlock) (hx : x'.ownBlock = x.ownBlock ∨ x'.ownBlock = some w.heap.size) : SlN x' w' v n f := by
  obtain ⟨b, cap, h1, h2, h3, h4, h5⟩ := h
  refine ⟨b, cap, Nat.lt_of_lt_of_le h1 hg.size, h2, h3, fun k hk => hg.cell (h4 k hk) (fun e => h5 e.symm), ?_⟩
  rcases hx with hx | hx
  · rw [hx]; exact h5
  · rw [hx]; intro e; simp at e; omega
theorem SlA.slN {x v : Value} {w : World} {lo n : Nat} {f : Nat → Int} (h : SlA lo w v n f) (hx : ∀ k, x.ownBlock = some k → k ≤ lo) : SlN x w v n f := by
  obtain ⟨b, cap, h0, h1, h2, h3, h4⟩ := h
  exact ⟨b, cap, h1, h2, h3, h4, fun e => by have := hx _ e; omega⟩

/-- The space of a number. -/
def Sq (v : Nat → Value) (q : Int) : Sp := ⟨v, fun i => cvN (spQ q / 4 / 4 ^ i % 4), fun i => cvF (spQ q / 4 / 4 ^ i % 4), spT (spQ q % 4), spF (spQ q % 4)⟩
theorem Sq.val (v : Nat → Value) (q : Int) : (Sq v q).val = true := spB_t (sp_val (by omega) (fun i => by omega))

/-- A row of spaces as a list of cells. -/
def valsS (S : Nat → Sp) (n : Nat) : List Value := (List.range n).flatMap fun k => (S k).cells.toList
theorem valsS_zero (S : Nat → Sp) : valsS S 0 = [] := rfl
theorem valsS_snoc (S : Nat → Sp) (n : Nat) : valsS S (n + 1) = valsS S n ++ (S n).cells.toList := by simp [valsS, List.range_succ]
theorem valsS_len (S : Nat → Sp) : ∀ n, (valsS S n).length = n * 21
  | 0 => rfl
  | n + 1 => by rw [valsS_snoc, List.length_append, valsS_len S n]; have : (S n).cells.toList.length = 21 := rfl; omega
theorem valsS_get (S : Nat → Sp) : ∀ n k j x, k < n → (S k).cells[j]? = some x → (valsS S n)[k * 21 + j]? = some x
  | 0, k, j, x, h, _ => by omega
  | n + 1, k, j, x, h, hx => by
    have hj : j < 21 := (Array.getElem?_eq_some_iff.1 hx).1
    rw [valsS_snoc]
    by_cases e : k = n
    · subst e
      rw [List.getElem?_append_right (by rw [valsS_len]; omega), valsS_len, show k * 21 + j - k * 21 = j by omega, Array.getElem?_toList]
      exact hx
    · rw [List.getElem?_append_left (by rw [valsS_len]; omega)]
      exact valsS_get S n k j x (by omega) hx
theorem valsS_congr {S S' : Nat → Sp} : ∀ n, (∀ k, k < n → (S k).cells = (S' k).cells) → valsS S n = valsS S' n
  | 0, _ => rfl
  | n + 1, h => by rw [valsS_snoc, valsS_snoc, valsS_congr n (fun k hk => h k (by omega)), h n (by omega)]

theorem chn_of_own {w : World} {base n : Nat} {v : Value} {S : Nat → Sp} {e : TypeId} (h : w.ownsRow base e 21 v n (valsS S n)) (hs : ∀ k, k < n → (S k).ok w w.heap.size) : Chn w w.heap.size v n S := by
  refine ⟨hs, ?_⟩
  have hc := fun g (hg : v.ownBlock = some g) => h.cells hg
  rcases h.2 with ⟨rfl, rfl⟩ | ⟨g, cap, cur, rfl, _, hgg, hcap, _⟩
  · exact .inl ⟨rfl, none, 0, rfl, fun _ => rfl⟩
  · refine .inr ⟨g, 0, cap, rfl, ⟨(Array.getElem?_eq_some_iff.1 hgg).1, hcap⟩, fun k hk j x hx => ?_⟩
    have := hc g rfl (k * 21 + j) x (valsS_get S n k j x hk hx)
    rw [Addr.add_mid, show 0 + (k * 21 + j) = 0 + k * 21 + j by omega] at this
    exact this

theorem cells_newL (w : World) (cs : Array Value) (t : TypeId) : ∀ (j : Nat) (u : Value), cs.toList[j]? = some u → (w.alloc (.cells cs t)).cell? ((⟨w.heap.size, 0, none⟩ : Addr).add j) = some u := fun j u h => by
  rw [Addr.add_mid, World.cell?_alloc_at _ _ _ _ rfl]
  simpa using h

/-- What Chain returns. -/
def IsChn (w : World) (base : Nat) (x : Value) (n : Nat) (vs : Nat → Nat → Value) (f : Nat → Int) : Prop :=
  w.ownsRow base 63 21 x n (valsS (fun j => Sq (vs j) (f j)) n) ∧ ∀ j, j < n → ∀ i, i < 3 → SlN x w (vs j i) (cvN (spQ (f j) / 4 / 4 ^ i % 4)) (cvF (spQ (f j) / 4 / 4 ^ i % 4))
theorem IsChn.chn {w : World} {base n : Nat} {x : Value} {vs : Nat → Nat → Value} {f : Nat → Int} (h : IsChn w base x n vs f) : Chn w w.heap.size x n (fun j => Sq (vs j) (f j)) :=
  chn_of_own h.1 fun k hk i hi => ⟨cvN_le _, (h.2 k hk i hi).sl⟩
theorem IsChn.on {w w' : World} {base n : Nat} {x : Value} {vs : Nat → Nat → Value} {f : Nat → Int} (h : IsChn w base x n vs f) (hb : Below w.heap.size w w') : IsChn w' base x n vs f :=
  ⟨own_below h.1 hb, fun j hj i hi => (h.2 j hj i hi).on hb⟩

set_option maxRecDepth 100000 in
set_option maxHeartbeats 4000000 in
theorem refChain_any {n B : Nat} {vq : Value} {f : Nat → Int} {w : World} (hn : n ≤ 9223372036854775807) (hB : B ≤ w.heap.size) (hs : Sl w B vq n f) :
    Calls Try.prog 13 #[vq] w fun e w' => ∃ (x : Value) (vs : Nat → Nat → Value), e = .returned x ∧ IsChn w' w.heap.size x (min n 5) vs f ∧ Below w.heap.size w w' := by
  obtain ⟨i0, hi, hz0, hz1, hz2⟩ := info_parts Try.info21
  have HS := Lib.hid hs
  obtain ⟨aq, cq, rfl⟩ := hs.shape
  clear hs
  go_enter Try.func13, Try.ntmps13
  go_wp2
  go_loopw [3, 4] (fun y i wr => ∃ (k : Nat) (x : Value) (vs : Nat → Nat → Value), k ≤ n ∧ k ≤ 5 ∧ i = .int .i64 k ∧ y = x ∧ IsChn wr w.heap.size x k vs f ∧ Below w.heap.size w wr) (fun _ i _ => 5 - (intOf i).toNat)
  case atStart => exact ⟨0, _, fun _ _ => .bool false, by omega, by omega, rfl, rfl, ⟨World.ownsRow_nil _ _ _ _, fun j hj => by omega⟩, Below.refl _ _⟩
  case round =>
    obtain ⟨k, x, vs, hkn, hk5, rfl, rfl, hch, hq⟩ := hrel
    by_cases hlt : k < n ∧ k < 5
    · obtain ⟨qb, qo, qc, e1, e2, e3⟩ := (HS.out.below hq hB).at (by omega)
      cases e1
      have c0 := e3 k hlt.1
      have i1 : 0 ≤ (k : Int) ∧ (k : Int) < n := by omega
      have d1 : decide ((k : Int) < n) = true := decide_eq_true (by omega)
      have d2 : decide ((k : Int) < 5) = true := decide_eq_true (by omega)
      have HCH := Lib.hid hch
      clear e3 hch
      go_wp2_with fail
      refine (refSpace_any (q := f k) (w := wr)).mono ?_
      rintro e w1 ⟨v, rfl, hcv, hb1, hsl⟩
      obtain ⟨vs', hvs'⟩ : ∃ vs' : Nat → Nat → Value, vs' = fun j => if j = k then v else vs j := ⟨_, rfl⟩
      have hv1 : ∀ j, j < k → vs' j = vs j := fun j hj => by rw [hvs']; exact if_neg (by omega)
      have hv2 : vs' k = v := by rw [hvs']; exact if_pos rfl
      have hone := Lib.hid (sp_one hcv (spT (spQ (f k) % 4)) (spF (spQ (f k) % 4)))
      have hch1 := HCH.out.on hb1
      have hq1 := hq.trans (hb1.mono hq.size)
      have HSQ := Lib.hid (show (Sq v (f k)).cells = spA v (spT (spQ (f k) % 4)) (spF (spQ (f k) % 4)) from rfl)
      have hsn := fun i (hi : i < 3) => (hsl i hi).slN (fun g hg => Nat.le_of_lt (HCH.out.1.lt g hg).2)
      obtain ⟨T, hT⟩ : ∃ T, spT (spQ (f k) % 4) = T := ⟨_, rfl⟩
      obtain ⟨M, hM⟩ : ∃ M, spF (spQ (f k) % 4) = M := ⟨_, rfl⟩
      rw [hT, hM] at hone HSQ ⊢
      obtain ⟨w2, h2⟩ : ∃ w2, w1.alloc (.cells #[v 0, v 1, v 2, .int .i64 (T 0), .int .i64 (T 1), .int .i64 (T 2), .int .i64 (T 3), .int .i64 (T 4), .int .i64 (T 5), .int .i64 (T 6), .int .i64 (T 7), .int .i64 (T 8), .int .i64 (M 0), .int .i64 (M 1), .int .i64 (M 2), .int .i64 (M 3), .int .i64 (M 4), .int .i64 (M 5), .int .i64 (M 6), .int .i64 (M 7), .int .i64 (M 8)] 63) = w2 := ⟨_, rfl⟩
      have hb2 : Below w1.heap.size w1 w2 := by rw [← h2]; exact (Below.refl _ _).alloc (Nat.le_refl _) _
      have HN := Lib.hid (show ∀ (j : Nat) (u : Value), (spA v T M).toList[j]? = some u → w2.cell? ((⟨w1.heap.size, 0, none⟩ : Addr).add j) = some u by rw [← h2]; exact cells_newL w1 (spA v T M) 63)
      have HO2 := Lib.hid (own_below hch1.1 hb2)
      have HS2 := Lib.hid (fun j (hj : j < k) i (hi : i < 3) => (hch1.2 j hj i hi).on hb2)
      have HV2 := Lib.hid (fun i (hi : i < 3) => (hsn i hi).on hb2)
      have hq2 := hq1.trans (hb2.mono hq1.size)
      have hqs := hq2.size
      have HONE : Hid (∀ u ∈ (spA v T M).toList, u.oneCell' = true) := Lib.hid (fun u hu => Array.all_eq_true_iff_forall_mem.1 hone.out u (by simpa using hu))
      have HVS := Lib.hid hv1
      have HVK := Lib.hid hv2
      unfold spc spA
      clear c0 hcv hsl hch1 hsn hT hM hvs' hv1 hv2
      go_wp2_with (at_builtin; refine wpList_append_own_at _ rfl _ _ 25 rfl w.heap.size 63 i0 (.agg #[.slice none 0 0, .slice none 0 0, .slice none 0 0, .int .i64 0, .int .i64 0, .int .i64 0, .int .i64 0, .int .i64 0, .int .i64 0, .int .i64 0, .int .i64 0, .int .i64 0, .int .i64 0, .int .i64 0, .int .i64 0, .int .i64 0, .int .i64 0, .int .i64 0, .int .i64 0, .int .i64 0, .int .i64 0]) 21 216 Try.underlying25 hi hz0 hz1 hz2 rfl (by decide) _ k (valsS (fun j => Sq (vs j) (f j)) k) rfl HO2.out ⟨w1.heap.size, 0, none⟩ 1 1 (spA v T M).toList rfl rfl HN.out HONE.out (by unfold maxLen; omega) (by omega) hqs ?_; intro x' w6 hown' hgrow _ hob; have HO6 := Lib.hid hown'; have HG6 := Lib.hid hgrow; have HB6 := Lib.hid hob; obtain ⟨gb, cap', rfl⟩ := own_succ hown'; clear hown' hgrow hob)
      go_roundw
      case rel =>
        refine ⟨k + 1, _, vs', by omega, by omega, by go_num, rfl, ⟨?_, fun j hj i hi => ?_⟩, hq2.trans ((Below.refl w.heap.size w2).grown HG6.out hqs (fun g hg => (HO2.out.lt g hg).1))⟩
        · rw [valsS_snoc, valsS_congr (S := fun j => Sq (vs' j) (f j)) (S' := fun j => Sq (vs j) (f j)) k (fun j hj => by show (Sq (vs' j) (f j)).cells = _; rw [HVS.out j hj])]
          rw [show (Sq (vs' k) (f k)).cells = spA v T M by rw [HVK.out]; exact HSQ.out]
          exact HO6.out
        · by_cases e : j = k
          · subst e
            rw [HVK.out]
            exact (HV2.out i hi).grown HG6.out HB6.out
          · rw [HVS.out j (by omega)]
            exact (HS2.out j (by omega) i hi).grown HG6.out HB6.out
      case measure => simp [intOf]; omega
    · have HCH := Lib.hid hch
      clear hch
      by_cases h1 : k < n
      · obtain rfl : k = 5 := by omega
        have hm : Hid (min n 5 = 5) := Lib.hid (by omega)
        have d1 : decide (((5 : Nat) : Int) < n) = true := decide_eq_true (by omega)
        go_wp2
        go_ret
        exact ⟨_, vs, rfl, by rw [hm.out]; exact HCH.out, hq⟩
      · obtain rfl : k = n := by omega
        have hm : Hid (min k 5 = k) := Lib.hid (by omega)
        have d1 : decide ((k : Int) < k) = false := decide_eq_false (by omega)
        go_wp2
        go_ret
        exact ⟨_, vs, rfl, by rw [hm.out]; exact HCH.out, hq⟩

end Go.Proofs.Ytmilljlkcbljpaa

/- Colours of the reference. -/
namespace Go.Proofs.Ytmilljlkcbljpaa
open Go.RowKit Go.Sort

/-- The colours that the numbers describe. -/
def colG (f : Nat → Int) (k j : Nat) : Int := f (3 * k + j) % 65536
/-- How many. -/
def colN (n : Nat) : Nat := min (n / 3) 40
theorem colG_gam (f : Nat → Int) (k : Nat) : InG (colG f k) := fun j _ => by unfold colG; omega

set_option maxRecDepth 100000 in
set_option maxHeartbeats 4000000 in
theorem refColours_any {n B : Nat} {vq : Value} {f : Nat → Int} {w : World} (hn : n ≤ 9223372036854775807) (hB : B ≤ w.heap.size) (hs : Sl w B vq n f) :
    Calls Try.prog 16 #[vq] w fun e w' => ∃ x : Value, e = .returned x ∧ w'.ownsRow w.heap.size 28 3 x (colN n) (vals3 (colG f) (colN n)) ∧ Below w.heap.size w w' := by
  have am : ∀ x : Int, bits .and .i64 x 65535 = x % 65536 := fun x => and_mask 16 x (by omega)
  obtain ⟨i0, hi, hz0, hz1, hz2⟩ := info_parts Try.info3
  have HS := Lib.hid hs
  obtain ⟨aq, cq, rfl⟩ := hs.shape
  clear hs
  go_enter Try.func16, Try.ntmps16
  go_wp2
  go_loopw [3, 4] (fun y i wr => ∃ (k J : Nat) (x : Value), J = 3 * k ∧ k ≤ n / 3 ∧ k ≤ 40 ∧ i = .int .i64 J ∧ y = x ∧ wr.ownsRow w.heap.size 28 3 x k (vals3 (colG f) k) ∧ Below w.heap.size w wr) (fun _ i _ => 120 - (intOf i).toNat)
  case atStart => exact ⟨0, 0, _, rfl, by omega, by omega, rfl, rfl, World.ownsRow_nil _ _ _ _, Below.refl _ _⟩
  case round =>
    obtain ⟨k, J, x, hJ, hkn, hk4, rfl, rfl, hown, hq⟩ := hrel
    have HJ := Lib.hid hJ
    by_cases hlt : k < n / 3 ∧ k < 40
    · obtain ⟨qb, qo, qc, e1, e2, e3⟩ := (HS.out.below hq hB).at (by omega)
      cases e1
      have c0 := e3 J (by omega)
      have c1 := e3 (J + 1) (by omega)
      have c2 := e3 (J + 2) (by omega)
      have hqs := hq.size
      have r0 := cell_regrown c0
      have r1 := cell_regrown c1
      have r2 := cell_regrown c2
      have i1 : 0 ≤ (J : Int) ∧ (J : Int) + 2 < n := by omega
      have i2 : (J : Int) + 2 ≤ 130 := by omega
      have d1 : decide ((J : Int) + 2 < n) = true := decide_eq_true (by omega)
      have d2 : decide ((J : Int) < 120) = true := decide_eq_true (by omega)
      have HO := Lib.hid hown
      have HG : Hid (colG f k 0 = f J % 65536 ∧ colG f k 1 = f (J + 1) % 65536 ∧ colG f k 2 = f (J + 2) % 65536) := Lib.hid (by rw [hJ]; exact ⟨rfl, rfl, rfl⟩)
      generalize f J = F0 at *
      generalize f (J + 1) = F1 at *
      generalize f (J + 2) = F2 at *
      clear e3 hown hJ
      go_wp2
      refine region_take [0] [1, 2, 3, 4, 5, 6, 7, 8, 9, 10, 11, 12, 13, 14, 15, 16, 17, 18] 19 [20, 21] (by kernel_rfl) (by kernel_rfl) (by kernel_rfl) (by kernel_rfl) (by kernel_rfl) (by kernel_rfl) (by kernel_rfl) (fun _ _ d _ _ h => by cases d <;> exact h) ?_
      simp only [selL, List.filterMap_cons, List.filterMap_nil, List.getElem?_cons_zero, List.getElem?_cons_succ]
      refine pureW_step u3 rfl (fun w' _ => ?_) (fun K' hK' => ?_)
      rotate_left
      · go_simp
        refine hK' _ ?_
        clear hK' K'
        refine pureW_nil ?_
        change wpQuiet _ _ _ _ (_ :: _ :: _ :: _ :: _ :: _ :: _ :: _ :: _ :: _ :: _ :: _ :: _ :: _ :: _ :: _ :: _ :: _ :: []) _
        repeat (go_big_quiet_step (fail))
        refine wpQuiet_nil ?_
        intro w3 hw3
        replace hw3 := below_of_regrown hw3
        have HO3 := Lib.hid (own_below HO.out hw3)
        have hq3 := hq.trans (hw3.mono hq.size)
        have hq3s := hq3.size
        obtain ⟨w4, h4⟩ : ∃ w4, w3.alloc (.cells #[.int .i64 (F0 % 65536), .int .i64 (F1 % 65536), .int .i64 (F2 % 65536)] 28) = w4 := ⟨_, rfl⟩
        have hb4 : Below w3.heap.size w3 w4 := by rw [← h4]; exact (Below.refl _ _).alloc (Nat.le_refl _) _
        have HO4 := Lib.hid (own_below HO3.out hb4)
        have HN4 : Hid (∀ (j : Nat) (u : Value), [Value.int .i64 (F0 % 65536), .int .i64 (F1 % 65536), .int .i64 (F2 % 65536)][j]? = some u → w4.cell? ((⟨w3.heap.size, 0, none⟩ : Addr).add j) = some u) := Lib.hid (by rw [← h4]; exact cells_new3 _ _ _ _ _)
        have hq4 := hq3.trans (hb4.mono hq3s)
        have hq4s := hq4.size
        clear c0 c1 c2 r0 r1 r2 hw3 hb4
        go_step
        go_step
        refine wpList_append_own _ rfl _ _ 29 rfl w.heap.size 28 i0 (.agg #[.int .i64 0, .int .i64 0, .int .i64 0]) 3 24 Try.underlying29 hi hz0 hz1 hz2 rfl (by decide) _ k (vals3 (colG f) k) rfl HO4.out ⟨w3.heap.size, 0, none⟩ 1 1 [.int .i64 (F0 % 65536), .int .i64 (F1 % 65536), .int .i64 (F2 % 65536)] rfl rfl HN4.out (by simp [Value.oneCell']) (by unfold maxLen; omega) (by omega) hq4s ?_
        intro x' w6 hown' hgrow _
        obtain ⟨gb, cap', rfl⟩ := own_succ hown'
        have HB6 := Lib.hid ((Below.refl w.heap.size _).grown hgrow hq4s (fun j hj => (HO4.out.lt j hj).1))
        have HO6 := Lib.hid hown'
        clear hown' hgrow
        go_wp2
        go_roundw
        case rel => exact ⟨k + 1, J + 3, _, by have := HJ.out; omega, by omega, by omega, by go_num, rfl, by rw [vals3_snoc, HG.out.1, HG.out.2.1, HG.out.2.2]; exact HO6.out, hq4.trans HB6.out⟩
        case measure => have := HJ.out; simp [intOf]; omega
      · go_simp
    · have HO := Lib.hid hown
      have i2 : (J : Int) + 2 ≤ 130 := by omega
      have hm : Hid (colN n = k) := Lib.hid (by unfold colN; omega)
      clear hown hJ
      by_cases h1 : (J : Int) + 2 < n
      · have hj120 : J = 120 := by have := HJ.out; omega
        subst hj120
        have d1 : decide (((120 : Nat) : Int) + 2 < n) = true := decide_eq_true h1
        go_wp2
        go_ret
        exact ⟨_, rfl, by rw [hm.out]; exact HO.out, hq⟩
      · have d1 : decide ((J : Int) + 2 < n) = false := decide_eq_false h1
        go_wp2
        go_ret
        exact ⟨_, rfl, by rw [hm.out]; exact HO.out, hq⟩

end Go.Proofs.Ytmilljlkcbljpaa
